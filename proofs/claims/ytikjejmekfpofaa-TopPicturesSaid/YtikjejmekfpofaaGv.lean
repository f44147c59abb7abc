/- The smallest cost of a plan, a cheapest plan; the chapter's examples. Conditions: in each contract. -/
import Derived.Test.YtikjejmekfpofaaGl
import Derived.Test.YtikjejmekfpofaaG3
import Derived.Test.YtikjejmekfpofaaG4
namespace Go.Proofs.Ytikjejmekfpofaa
open Go.RowKit Go.VS
set_option linter.unusedSimpArgs false
set_option linter.unusedVariables false

theorem okMass_bnd {a : List Int} (h : okMass a = true) : (1 ≤ a.length ∧ a.length ≤ 6) ∧ Go.OT.Bnd 0 200 a :=
  ⟨by have := okMass_len h; omega, fun x hx => by have := okMass_mem h x hx; omega⟩
theorem ForOK.mc {a b : List Int} {c : List (List Int)} (h : ForOK a b c) : Go.OT.MC a b c := by
  have h1 := okMass_bnd h.ha
  have h2 := okMass_bnd h.hb
  have h3 := h.hc.tb (lo' := 0) (hi' := 99) (by omega) (by omega)
  rw [h.rows, h.cols] at h3
  exact ⟨h1.1, h2.1, h1.2, h2.2, h3⟩
theorem fit_cheap {a b : List Int} {c : List (List Int)} (h : Go.OT.MC a b c) : Fit c (Go.OT.cheapV a b c) := by
  obtain ⟨⟨V, h1⟩, _⟩ := h.cheap
  exact ⟨_, _, ⟨by have := h.a5; omega, by have := h.b5; omega⟩, ⟨h.hc.rows, h.hc.cols, fun i j hi hj => by have := h.hc.at' i j hi hj; omega⟩, h1.shp.tab⟩

def leastV (a b : List Int) (c : List (List Int)) : Int := if errFits a b c = 0 then spend c (Go.OT.cheapV a b c) else 0
def cheapP (a b : List Int) (c : List (List Int)) : List (List Int) := if errFits a b c = 0 then Go.OT.cheapV a b c else []
theorem leastV_0 {a b : List Int} {c : List (List Int)} (h : errFits a b c = 0) : leastV a b c = spend c (Go.OT.cheapV a b c) := if_pos h
theorem leastV_1 {a b : List Int} {c : List (List Int)} (h : ¬ errFits a b c = 0) : leastV a b c = 0 := if_neg h
theorem cheapP_0 {a b : List Int} {c : List (List Int)} (h : errFits a b c = 0) : cheapP a b c = Go.OT.cheapV a b c := if_pos h
theorem cheapP_1 {a b : List Int} {c : List (List Int)} (h : ¬ errFits a b c = 0) : cheapP a b c = [] := if_neg h

@[push_cast] def leastCon : Con := ⟨[.dat (.sl .int), .dat (.sl .int), .dat (.sl (.sl .int))], fun _ => True, fun (x : List Int × List Int × List (List Int) × Unit) => { res := [.val .int (leastV x.1 x.2.1 x.2.2.1), .val .int (errFits x.1 x.2.1 x.2.2.1)] }⟩
@[push_cast] def cheapPCon : Con := ⟨[.dat (.sl .int), .dat (.sl .int), .dat (.sl (.sl .int))], fun _ => True, fun (x : List Int × List Int × List (List Int) × Unit) => { res := [.own (.deep 22 3 .int (cheapP x.1 x.2.1 x.2.2.1)), .val .int (errFits x.1 x.2.1 x.2.2.1)] }⟩

theorem pleast_spec : FnSpec Try.prog 10 leastCon := by
  refine FnSpec.of_tri' (E := know [(18, fitsCon), (19, cheapCon), (21, spendCon)] [] [] []) (know_ok (all_cons pfits_spec (all_cons cheap_spec (all_cons scost_spec all_nil))) all_nil all_nil) Try.func10 rfl rfl (by kernel_rfl) ?_
  intro C x hE hnl hfit hpre
  simp only [Try.ntmps10, Try.results10, maxLen, Nat.reduceSub, Nat.reducePow, Nat.reduceAdd, Int.cast_ofNat_Int, push_cast] at hnl hfit hpre ⊢
  obtain ⟨(a : List Int), (b : List Int), (c : List (List Int)), _⟩ := x
  dsimp only at hfit hpre ⊢
  by_cases he : errFits a b c = 0
  · have h1 := (errFits_ok he).1.mc
    have h2 := fit_cheap h1
    have h3 := leastV_0 he
    replace hnl := And.intro hnl (And.intro he h3)
    repeat' (first|(refine goK (by assumption) ?_; iterate 4 (try clear hK K))|(refine tri_seqk fun K hK => ?_)|((first|refine tri_region hE rfl ?_|refine tri_ret ?_); simp +contextual only [hnl, ↓kN, ↓kP, ↓kG, ↓qN, ↓qP, ↓qG, push_cast, Int.reduceEq, Int.reduceLT, Int.reduceLE, Int.reduceNeg, Nat.reduceLT, Nat.reduceLeDiff, Int.reduceToNat, Int.cast_ofNat_Int, Nat.reduceBEq, Nat.reduceMul, Nat.reduceEqDiff, reduceCtorEq, Nat.reduceAdd])|refine tri_block ?_|((first|refine tri_skip ?_|refine tri_exit ?_); simp only [thenQ, blockQ, if_true, if_false, Nat.reduceEqDiff, reduceCtorEq])|(refine tri_cond (by rfl) (fun hb => ?_) (fun hb => ?_) <;> (try simp only [decide_eq_true_eq, decide_eq_false_iff_not, Bool.not_eq_true', Bool.not_eq_false', reduceCtorEq, Bool.true_eq_false, Bool.false_eq_true] at hb) <;> (try omega))|refine tri_unk (by rfl) ?_ ?_|refine And.intro (by first|omega|(unfold InR; omega)|assumption|decide|exact ⟨_, _, rfl⟩) ?_|(refine ⟨fun hc => ?_, fun hc => ?_⟩)|(intro hc; try omega))
  · have h3 := leastV_1 he
    replace hnl := And.intro hnl h3
    repeat' (first|(refine goK (by assumption) ?_; iterate 4 (try clear hK K))|(refine tri_seqk fun K hK => ?_)|((first|refine tri_region hE rfl ?_|refine tri_ret ?_); simp +contextual only [hnl, ↓kN, ↓kP, ↓kG, ↓qN, ↓qP, ↓qG, push_cast, Int.reduceEq, Int.reduceLT, Int.reduceLE, Int.reduceNeg, Nat.reduceLT, Nat.reduceLeDiff, Int.reduceToNat, Int.cast_ofNat_Int, Nat.reduceBEq, Nat.reduceMul, Nat.reduceEqDiff, reduceCtorEq, Nat.reduceAdd])|refine tri_block ?_|((first|refine tri_skip ?_|refine tri_exit ?_); simp only [thenQ, blockQ, if_true, if_false, Nat.reduceEqDiff, reduceCtorEq])|(refine tri_cond (by rfl) (fun hb => ?_) (fun hb => ?_) <;> (try simp only [decide_eq_true_eq, decide_eq_false_iff_not, Bool.not_eq_true', Bool.not_eq_false', reduceCtorEq, Bool.true_eq_false, Bool.false_eq_true] at hb) <;> (try omega))|refine tri_unk (by rfl) ?_ ?_|refine And.intro (by first|omega|(unfold InR; omega)|assumption|decide|exact ⟨_, _, rfl⟩) ?_|(refine ⟨fun hc => ?_, fun hc => ?_⟩)|(intro hc; try omega))

theorem pcheap_spec : FnSpec Try.prog 8 cheapPCon := by
  refine FnSpec.of_tri' (E := know [(18, fitsCon), (19, cheapCon)] [] [] []) (know_ok (all_cons pfits_spec (all_cons cheap_spec all_nil)) all_nil all_nil) Try.func8 rfl rfl (by kernel_rfl) ?_
  intro C x hE hnl hfit hpre
  simp only [Try.ntmps8, Try.results8, maxLen, Nat.reduceSub, Nat.reducePow, Nat.reduceAdd, Int.cast_ofNat_Int, push_cast] at hnl hfit hpre ⊢
  obtain ⟨(a : List Int), (b : List Int), (c : List (List Int)), _⟩ := x
  dsimp only at hfit hpre ⊢
  by_cases he : errFits a b c = 0
  · have h1 := (errFits_ok he).1.mc
    have h3 := cheapP_0 he
    replace hnl := And.intro hnl (And.intro he h3)
    repeat' (first|(refine goK (by assumption) ?_; iterate 4 (try clear hK K))|(refine tri_seqk fun K hK => ?_)|((first|refine tri_region hE rfl ?_|refine tri_ret ?_); simp +contextual only [hnl, ↓kN, ↓kP, ↓kG, ↓qN, ↓qP, ↓qG, push_cast, Int.reduceEq, Int.reduceLT, Int.reduceLE, Int.reduceNeg, Nat.reduceLT, Nat.reduceLeDiff, Int.reduceToNat, Int.cast_ofNat_Int, Nat.reduceBEq, Nat.reduceMul, Nat.reduceEqDiff, reduceCtorEq, Nat.reduceAdd])|refine tri_block ?_|((first|refine tri_skip ?_|refine tri_exit ?_); simp only [thenQ, blockQ, if_true, if_false, Nat.reduceEqDiff, reduceCtorEq])|(refine tri_cond (by rfl) (fun hb => ?_) (fun hb => ?_) <;> (try simp only [decide_eq_true_eq, decide_eq_false_iff_not, Bool.not_eq_true', Bool.not_eq_false', reduceCtorEq, Bool.true_eq_false, Bool.false_eq_true] at hb) <;> (try omega))|refine tri_unk (by rfl) ?_ ?_|refine And.intro (by first|omega|(unfold InR; omega)|assumption|decide|exact ⟨_, _, rfl⟩) ?_|(refine ⟨fun hc => ?_, fun hc => ?_⟩)|(intro hc; try omega))
  · have h3 := cheapP_1 he
    replace hnl := And.intro hnl h3
    repeat' (first|(refine goK (by assumption) ?_; iterate 4 (try clear hK K))|(refine tri_seqk fun K hK => ?_)|((first|refine tri_region hE rfl ?_|refine tri_ret ?_); simp +contextual only [hnl, ↓kN, ↓kP, ↓kG, ↓qN, ↓qP, ↓qG, push_cast, Int.reduceEq, Int.reduceLT, Int.reduceLE, Int.reduceNeg, Nat.reduceLT, Nat.reduceLeDiff, Int.reduceToNat, Int.cast_ofNat_Int, Nat.reduceBEq, Nat.reduceMul, Nat.reduceEqDiff, reduceCtorEq, Nat.reduceAdd])|refine tri_block ?_|((first|refine tri_skip ?_|refine tri_exit ?_); simp only [thenQ, blockQ, if_true, if_false, Nat.reduceEqDiff, reduceCtorEq])|(refine tri_cond (by rfl) (fun hb => ?_) (fun hb => ?_) <;> (try simp only [decide_eq_true_eq, decide_eq_false_iff_not, Bool.not_eq_true', Bool.not_eq_false', reduceCtorEq, Bool.true_eq_false, Bool.false_eq_true] at hb) <;> (try omega))|refine tri_unk (by rfl) ?_ ?_|refine And.intro (by first|omega|(unfold InR; omega)|assumption|decide|exact ⟨_, _, rfl⟩) ?_|(refine ⟨fun hc => ?_, fun hc => ?_⟩)|(intro hc; try omega))

theorem known1 : errFits [2, 1] [1, 2] [[1, 4], [2, 3]] = 0 ∧ leastV [2, 1] [1, 2] [[1, 4], [2, 3]] = 8 := by decide +kernel
theorem known2 : errCols [[1, 4], [2, 3]] [0, -1] = 0 ∧ bestCols [[1, 4], [2, 3]] [0, -1] = [1, 4] := by decide +kernel
theorem known3 : errRound [[1, 4], [2, 3]] [(0, 1), (1, 0)] [(0, 1), (1, 0)] = 0 ∧ roundV [[1, 4], [2, 3]] [(0, 1), (1, 0)] [(0, 1), (1, 0)] = 2 := by decide +kernel

@[push_cast] def knownCon : Con := ⟨[], fun _ => True, fun _ => { res := [.val .bool true] }⟩

end Go.Proofs.Ytikjejmekfpofaa
