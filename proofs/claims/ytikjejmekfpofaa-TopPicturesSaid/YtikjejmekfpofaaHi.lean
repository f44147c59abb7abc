/- Prices that are handed back; greater and smaller prices. Conditions: in each contract. -/
import Derived.Test.YtikjejmekfpofaaHg
import Derived.Test.YtikjejmekfpofaaHd
import Derived.Test.YtikjejmekfpofaaV4
namespace Go.Proofs.Ytikjejmekfpofaa
open Go.RowKit Go.VS Go.OT
set_option linter.unusedSimpArgs false
set_option linter.unusedVariables false

def pricesV (a b : List Int) (c : List (List Int)) : Prices := if errFits a b c = 0 then ((prV c (cheapV a b c)).r, (prV c (cheapV a b c)).k) else ([], [])
theorem pricesV_0 {a b : List Int} {c : List (List Int)} (h : errFits a b c = 0) : pricesV a b c = ((prV c (cheapV a b c)).r, (prV c (cheapV a b c)).k) := if_pos h
theorem pricesV_1 {a b : List Int} {c : List (List Int)} (h : ¬ errFits a b c = 0) : pricesV a b c = ([], []) := if_neg h
@[push_cast] def pricesCon : Con := ⟨[.dat (.sl .int), .dat (.sl .int), .dat (.sl (.sl .int))], fun _ => True, fun (x : List Int × List Int × List (List Int) × Unit) => { res := [.val (.prod (.sl .int) (.sl .int)) (pricesV x.1 x.2.1 x.2.2.1), .val .int (errFits x.1 x.2.1 x.2.2.1)] }⟩

theorem prPre_of {a b : List Int} {c : List (List Int)} (h : errFits a b c = 0) : PrPre c (cheapV a b c) := by
  obtain ⟨h1, h2⟩ := errFits_ok h
  have h3 := h1.mc
  obtain ⟨⟨V, h4⟩, _⟩ := h3.cheap
  have k1 := h1.rows
  have k2 := h1.cols
  have k3 := h3.a5
  have k4 := h3.b5
  refine ⟨by omega, by omega, by rw [k1, k2]; exact h3.hc, by rw [k1, k2]; exact h4.shp.tab⟩

/-- A goal that the walk leaves alone. -/
structure Stop (p : Prop) : Prop where
  h : p

set_option maxHeartbeats 2000000 in
theorem pprices_spec : FnSpec Try.prog 9 pricesCon := by
  refine FnSpec.of_tri' (E := know [(18, fitsCon), (19, cheapCon), (20, shipPrCon)] [] [] []) (know_ok (all_cons pfits_spec (all_cons cheap_spec (all_cons shipPr_spec all_nil))) all_nil all_nil) Try.func9 rfl rfl (by kernel_rfl) ?_
  intro C x hE hnl hfit hpre
  simp only [Try.ntmps9, Try.results9, maxLen, Nat.reduceSub, Nat.reducePow, Nat.reduceAdd, Int.cast_ofNat_Int, push_cast] at hnl hfit hpre ⊢
  obtain ⟨(a : List Int), (b : List Int), (c : List (List Int)), _⟩ := x
  dsimp only at hfit hpre ⊢
  refine tri_post ?_
  by_cases he : errFits a b c = 0
  · have h1 := (errFits_ok he).1.mc
    have h2 := prPre_of he
    have h3 := pricesV_0 he
    replace hnl := And.intro hnl he
    rw [h3]
    repeat' (first | (refine tri_weak (t := AS.of [(6, .one (.box 6)), (9, .one (.val (.sl .int) (prV c (cheapV a b c)).r)), (10, .one (.val (.sl .int) (prV c (cheapV a b c)).k))] [] [(6, .rcd [.nils, .nils])]) ?_ (Stop.h ?_); · (refine weak_of ?_ ?_ ?_ <;> simp only [push_cast, Int.reduceEq, Int.reduceLT, Int.reduceLE, Int.reduceNeg, Nat.reduceLT, Nat.reduceLeDiff, Int.reduceToNat, Int.cast_ofNat_Int, Nat.reduceBEq, Nat.reduceMul, Nat.reduceEqDiff, reduceCtorEq, Nat.reduceAdd])) | (first|(refine goK (by assumption) ?_; iterate 4 (try clear hK K))|(refine tri_seqk fun K hK => ?_)|((first|refine tri_region hE rfl ?_|refine tri_ret ?_); simp +contextual only [hnl, ↓kN, ↓kP, ↓kG, ↓qN, ↓qP, ↓qG, push_cast, Int.reduceEq, Int.reduceLT, Int.reduceLE, Int.reduceNeg, Nat.reduceLT, Nat.reduceLeDiff, Int.reduceToNat, Int.cast_ofNat_Int, Nat.reduceBEq, Nat.reduceMul, Nat.reduceEqDiff, reduceCtorEq, Nat.reduceAdd])|refine tri_block ?_|((first|refine tri_skip ?_|refine tri_exit ?_); simp only [thenQ, blockQ, if_true, if_false, Nat.reduceEqDiff, reduceCtorEq])|(refine tri_cond (by rfl) (fun hb => ?_) (fun hb => ?_) <;> (try simp only [decide_eq_true_eq, decide_eq_false_iff_not, Bool.not_eq_true', Bool.not_eq_false', reduceCtorEq, Bool.true_eq_false, Bool.false_eq_true] at hb) <;> (try omega))|refine tri_unk (by rfl) ?_ ?_|refine And.intro (by first|omega|(unfold InR; omega)|assumption|decide|exact ⟨_, _, rfl⟩) ?_|(refine ⟨fun hc => ?_, fun hc => ?_⟩)|(intro hc; try omega)))
    all_goals try refine ⟨?_⟩
    repeat' (first|(refine goK (by assumption) ?_; iterate 4 (try clear hK K))|(refine tri_seqk fun K hK => ?_)|((first|refine tri_region hE rfl ?_|refine tri_ret ?_); simp +contextual only [hnl, ↓kN, ↓kP, ↓kG, ↓qN, ↓qP, ↓qG, push_cast, Int.reduceEq, Int.reduceLT, Int.reduceLE, Int.reduceNeg, Nat.reduceLT, Nat.reduceLeDiff, Int.reduceToNat, Int.cast_ofNat_Int, Nat.reduceBEq, Nat.reduceMul, Nat.reduceEqDiff, reduceCtorEq, Nat.reduceAdd])|refine tri_block ?_|((first|refine tri_skip ?_|refine tri_exit ?_); simp only [thenQ, blockQ, if_true, if_false, Nat.reduceEqDiff, reduceCtorEq])|(refine tri_cond (by rfl) (fun hb => ?_) (fun hb => ?_) <;> (try simp only [decide_eq_true_eq, decide_eq_false_iff_not, Bool.not_eq_true', Bool.not_eq_false', reduceCtorEq, Bool.true_eq_false, Bool.false_eq_true] at hb) <;> (try omega))|refine tri_unk (by rfl) ?_ ?_|refine And.intro (by first|omega|(unfold InR; omega)|assumption|decide|exact ⟨_, _, rfl⟩) ?_|(refine ⟨fun hc => ?_, fun hc => ?_⟩)|(intro hc; try omega))
    all_goals try exact ⟨AS.of [(6, .one (.box 6)), (7, .one (.val .int (0 : Int)))] [] [(6, .one (.val (.prod (.sl .int) (.sl .int)) ((prV c (cheapV a b c)).r, (prV c (cheapV a b c)).k)))], by refine weak_of ?_ ?_ ?_ <;> simp only [push_cast, Int.reduceEq, Int.reduceLT, Int.reduceLE, Int.reduceNeg, Nat.reduceLT, Nat.reduceLeDiff, Int.reduceToNat, Int.cast_ofNat_Int, Nat.reduceBEq, Nat.reduceMul, Nat.reduceEqDiff, reduceCtorEq, Nat.reduceAdd], by simp only [he, push_cast, Int.reduceEq, Int.reduceLT, Int.reduceLE, Int.reduceNeg, Nat.reduceLT, Nat.reduceLeDiff, Int.reduceToNat, Int.cast_ofNat_Int, Nat.reduceBEq, Nat.reduceMul, Nat.reduceEqDiff, reduceCtorEq, Nat.reduceAdd]⟩
  · have h3 := pricesV_1 he
    rw [h3]
    repeat' (first|(refine goK (by assumption) ?_; iterate 4 (try clear hK K))|(refine tri_seqk fun K hK => ?_)|((first|refine tri_region hE rfl ?_|refine tri_ret ?_); simp +contextual only [hnl, ↓kN, ↓kP, ↓kG, ↓qN, ↓qP, ↓qG, push_cast, Int.reduceEq, Int.reduceLT, Int.reduceLE, Int.reduceNeg, Nat.reduceLT, Nat.reduceLeDiff, Int.reduceToNat, Int.cast_ofNat_Int, Nat.reduceBEq, Nat.reduceMul, Nat.reduceEqDiff, reduceCtorEq, Nat.reduceAdd])|refine tri_block ?_|((first|refine tri_skip ?_|refine tri_exit ?_); simp only [thenQ, blockQ, if_true, if_false, Nat.reduceEqDiff, reduceCtorEq])|(refine tri_cond (by rfl) (fun hb => ?_) (fun hb => ?_) <;> (try simp only [decide_eq_true_eq, decide_eq_false_iff_not, Bool.not_eq_true', Bool.not_eq_false', reduceCtorEq, Bool.true_eq_false, Bool.false_eq_true] at hb) <;> (try omega))|refine tri_unk (by rfl) ?_ ?_|refine And.intro (by first|omega|(unfold InR; omega)|assumption|decide|exact ⟨_, _, rfl⟩) ?_|(refine ⟨fun hc => ?_, fun hc => ?_⟩)|(intro hc; try omega))
    all_goals try exact ⟨AS.of [(6, .one (.box 6)), (7, .one (.val .int (errFits a b c)))] [] [(6, .one (.val (.prod (.sl .int) (.sl .int)) (([] : List Int), ([] : List Int))))], by refine weak_of ?_ ?_ ?_ <;> simp only [push_cast, Int.reduceEq, Int.reduceLT, Int.reduceLE, Int.reduceNeg, Nat.reduceLT, Nat.reduceLeDiff, Int.reduceToNat, Int.cast_ofNat_Int, Nat.reduceBEq, Nat.reduceMul, Nat.reduceEqDiff, reduceCtorEq, Nat.reduceAdd], by simp only [push_cast, Int.reduceEq, Int.reduceLT, Int.reduceLE, Int.reduceNeg, Nat.reduceLT, Nat.reduceLeDiff, Int.reduceToNat, Int.cast_ofNat_Int, Nat.reduceBEq, Nat.reduceMul, Nat.reduceEqDiff, reduceCtorEq, Nat.reduceAdd]⟩
end Go.Proofs.Ytikjejmekfpofaa
