/- The plan that moves so many units; the statement LoosePart. Conditions: in each contract. -/
import Derived.Test.YthncebdmmfhhjaaSu
namespace Go.Proofs.Ythncebdmmfhhjaa
open Go.RowKit Go.VS Go.OT Go.LC
set_option linter.unusedSimpArgs false
set_option linter.unusedVariables false

def InU (a b : List Int) (u : Int) : Prop := 0 ≤ u ∧ u ≤ maxU a b
instance (a b : List Int) (u : Int) : Decidable (InU a b u) := by unfold InU; infer_instance
def errPt (a b : List Int) (c : List (List Int)) (u : Int) : Int := if errFor a b c = 0 then if InU a b u then 0 else 1 else errFor a b c
def partPE (a b : List Int) (c : List (List Int)) (u : Int) : List (List Int) := if errPt a b c u = 0 then stepP a b c u.toNat else []
theorem errPt_ok {a b : List Int} {c : List (List Int)} {u : Int} (h : errPt a b c u = 0) : ForOK a b c ∧ InU a b u := by
  unfold errPt at h
  split at h
  · rename_i h1
    split at h
    · exact ⟨errFor_ok h1, by assumption⟩
    · omega
  · rename_i h1; exact absurd h h1
theorem found_part (a b : List Int) (c : List (List Int)) {u : Int} (h : InU a b u) : foundK a b c (fun x => decide (u < (x.1.length : Int))) = u.toNat := by
  obtain ⟨h1, h2⟩ := h
  refine stopK_eq (by omega) (fun m hm => ?_) (.inr ?_)
  · refine decide_eq_false ?_
    show ¬ u < ((partsL a b c m).length : Int)
    rw [partsL_len]
    omega
  · refine decide_eq_true ?_
    show u < ((partsL a b c u.toNat).length : Int)
    rw [partsL_len]
    omega
@[push_cast] def part1Con : Con := ⟨[.dat (.sl .int), .dat .int, .ptr .int], fun _ => True, fun (x : List Int × Int × Int × Unit) => { res := [.val .bool (decide (x.2.2.1 < (x.1.length : Int)))] }⟩
@[push_cast] def part1Clo : Clo := ⟨[.int], [.sl .int, .int], .bool, fun _ _ => True, fun (y : Int × Unit) (x : List Int × Int × Unit) => decide (y.1 < (x.1.length : Int))⟩
theorem part1_fn : FnSpec Try.prog 78 part1Con := by
  refine FnSpec.of_tri' (E := know [] [] [] []) (know_ok all_nil all_nil all_nil) Try.func78 rfl rfl (by kernel_rfl) ?_
  intro C x hE hnl hfit hpre
  simp only [Try.ntmps78, Try.results78, maxLen, Nat.reduceSub, Nat.reducePow, Nat.reduceAdd, Int.cast_ofNat_Int, push_cast] at hnl hfit hpre ⊢
  obtain ⟨(l : List Int), (n : Int), (w : Int), _⟩ := x
  dsimp only at hfit hpre ⊢
  repeat' (first|(refine goK (by assumption) ?_; iterate 4 (try clear hK K))|(refine tri_seqk fun K hK => ?_)|((first|refine tri_region hE rfl ?_|refine tri_ret ?_|((first|refine tri_drawP hE 1 rfl rfl (by kernel_rfl) ?_|refine tri_drawP hE 2 rfl rfl (by kernel_rfl) ?_|refine tri_drawP hE 3 rfl rfl (by kernel_rfl) ?_|refine tri_drawP hE 4 rfl rfl (by kernel_rfl) ?_); simp only [List.length_cons, List.length_nil, Nat.reduceAdd, Nat.reduceSub, List.take_succ_cons, List.take_zero, List.drop_succ_cons, List.drop_zero])); simp +contextual only [hnl, ↓kN, ↓kP, ↓kG, ↓qN, ↓qP, ↓qG, push_cast, Int.reduceEq, Int.reduceLT, Int.reduceLE, Int.reduceNeg, Nat.reduceLT, Nat.reduceLeDiff, Int.reduceToNat, Int.cast_ofNat_Int, Nat.reduceBEq, Nat.reduceMul, Nat.reduceEqDiff, reduceCtorEq, Nat.reduceAdd])|refine tri_block ?_|((first|refine tri_skip ?_|refine tri_exit ?_); simp only [thenQ, blockQ, if_true, if_false, Nat.reduceEqDiff, reduceCtorEq])|(refine tri_cond (by rfl) (fun hb => ?_) (fun hb => ?_) <;> (try simp only [decide_eq_true_eq, decide_eq_false_iff_not, Bool.not_eq_true', Bool.not_eq_false', reduceCtorEq, Bool.true_eq_false, Bool.false_eq_true] at hb) <;> (try omega))|refine tri_unk (by rfl) ?_ ?_|refine And.intro (by first|omega|(unfold InR; omega)|assumption|decide|exact ⟨_, _, rfl⟩) ?_|(refine ⟨fun hc => ?_, fun hc => ?_⟩)|(intro hc; try omega))
theorem part1_spec : CloSpec Try.prog 78 part1Clo := CloSpec.of part1_fn
@[push_cast] def lPartCon : Con := ⟨[.dat (.sl .int), .dat (.sl .int), .dat (.sl (.sl .int)), .dat .int], fun _ => True, fun (x : List Int × List Int × List (List Int) × Int × Unit) =>
  { res := [.val (.sl (.sl .int)) (partPE x.1 x.2.1 x.2.2.1 x.2.2.2.1), .val .int (errPt x.1 x.2.1 x.2.2.1 x.2.2.2.1)] }⟩
theorem lPart_spec : FnSpec Try.prog 30 lPartCon := by
  refine FnSpec.of_tri' (E := know [(67, forCon), (77, totalCon), (76, withinCon), (72, lookCon)] [(78, part1Clo)] [] []) (know_ok (all_cons lfits_spec (all_cons ltotal_spec (all_cons lwithin_spec (all_cons look_spec all_nil)))) (all_cons part1_spec all_nil) all_nil) Try.func30 rfl rfl (by kernel_rfl) ?_
  intro C x hE hnl hfit hpre
  simp only [Try.ntmps30, Try.results30, maxLen, Nat.reduceSub, Nat.reducePow, Nat.reduceAdd, Int.cast_ofNat_Int, push_cast] at hnl hfit hpre ⊢
  obtain ⟨(a : List Int), (b : List Int), (c : List (List Int)), (u : Int), _⟩ := x
  dsimp only at hfit hpre ⊢
  by_cases he : errFor a b c = 0
  · have hf := errFor_ok he
    have hm := hf.mc
    have hmn := maxU_min hf
    obtain ⟨s1, s2, s3, s4⟩ := MC.sums hf
    by_cases hu : InU a b u
    · have e1 : errPt a b c u = 0 := by rw [errPt, if_pos he, if_pos hu]
      have e2 : partPE a b c u = stepP a b c u.toNat := if_pos e1
      replace hnl := And.intro hnl (And.intro boolsA (And.intro he (And.intro hm (And.intro hmn (And.intro (fun m => eq_true (s1 m)) (And.intro (fun m => eq_true (s2 m)) (And.intro (eq_true hu.1) (And.intro (eq_true hu.2) (And.intro e1 (And.intro e2 (found_part a b c hu)))))))))))
      repeat' (first|(refine goK (by assumption) ?_; iterate 4 (try clear hK K))|(refine tri_seqk fun K hK => ?_)|((first|refine tri_region hE rfl ?_|refine tri_ret ?_|((first|refine tri_drawP hE 1 rfl rfl (by kernel_rfl) ?_|refine tri_drawP hE 2 rfl rfl (by kernel_rfl) ?_|refine tri_drawP hE 3 rfl rfl (by kernel_rfl) ?_|refine tri_drawP hE 4 rfl rfl (by kernel_rfl) ?_); simp only [List.length_cons, List.length_nil, Nat.reduceAdd, Nat.reduceSub, List.take_succ_cons, List.take_zero, List.drop_succ_cons, List.drop_zero])); simp +contextual only [hnl, ↓kN, ↓kP, ↓kG, ↓qN, ↓qP, ↓qG, push_cast, Int.reduceEq, Int.reduceLT, Int.reduceLE, Int.reduceNeg, Nat.reduceLT, Nat.reduceLeDiff, Int.reduceToNat, Int.cast_ofNat_Int, Nat.reduceBEq, Nat.reduceMul, Nat.reduceEqDiff, reduceCtorEq, Nat.reduceAdd])|refine tri_block ?_|((first|refine tri_skip ?_|refine tri_exit ?_); simp only [thenQ, blockQ, if_true, if_false, Nat.reduceEqDiff, reduceCtorEq])|(refine tri_cond (by rfl) (fun hb => ?_) (fun hb => ?_) <;> (try simp only [decide_eq_true_eq, decide_eq_false_iff_not, Bool.not_eq_true', Bool.not_eq_false', reduceCtorEq, Bool.true_eq_false, Bool.false_eq_true] at hb) <;> (try omega))|refine tri_unk (by rfl) ?_ ?_|refine And.intro (by first|omega|(unfold InR; omega)|assumption|decide|exact ⟨_, _, rfl⟩) ?_|(refine ⟨fun hc => ?_, fun hc => ?_⟩)|(intro hc; try omega))
      all_goals skip
    · have e1 : errPt a b c u = 1 := by rw [errPt, if_pos he, if_neg hu]
      have e2 : partPE a b c u = [] := if_neg (by omega)
      have e3 : (0 ≤ u ∧ u ≤ (maxU a b : Int)) = False := eq_false hu
      replace hnl := And.intro hnl (And.intro boolsA (And.intro he (And.intro hm (And.intro hmn (And.intro (fun m => eq_true (s1 m)) (And.intro (fun m => eq_true (s2 m)) (And.intro e1 (And.intro e2 e3))))))))
      repeat' (first|(refine goK (by assumption) ?_; iterate 4 (try clear hK K))|(refine tri_seqk fun K hK => ?_)|((first|refine tri_region hE rfl ?_|refine tri_ret ?_|((first|refine tri_drawP hE 1 rfl rfl (by kernel_rfl) ?_|refine tri_drawP hE 2 rfl rfl (by kernel_rfl) ?_|refine tri_drawP hE 3 rfl rfl (by kernel_rfl) ?_|refine tri_drawP hE 4 rfl rfl (by kernel_rfl) ?_); simp only [List.length_cons, List.length_nil, Nat.reduceAdd, Nat.reduceSub, List.take_succ_cons, List.take_zero, List.drop_succ_cons, List.drop_zero])); simp +contextual only [hnl, ↓kN, ↓kP, ↓kG, ↓qN, ↓qP, ↓qG, push_cast, Int.reduceEq, Int.reduceLT, Int.reduceLE, Int.reduceNeg, Nat.reduceLT, Nat.reduceLeDiff, Int.reduceToNat, Int.cast_ofNat_Int, Nat.reduceBEq, Nat.reduceMul, Nat.reduceEqDiff, reduceCtorEq, Nat.reduceAdd])|refine tri_block ?_|((first|refine tri_skip ?_|refine tri_exit ?_); simp only [thenQ, blockQ, if_true, if_false, Nat.reduceEqDiff, reduceCtorEq])|(refine tri_cond (by rfl) (fun hb => ?_) (fun hb => ?_) <;> (try simp only [decide_eq_true_eq, decide_eq_false_iff_not, Bool.not_eq_true', Bool.not_eq_false', reduceCtorEq, Bool.true_eq_false, Bool.false_eq_true] at hb) <;> (try omega))|refine tri_unk (by rfl) ?_ ?_|refine And.intro (by first|omega|(unfold InR; omega)|assumption|decide|exact ⟨_, _, rfl⟩) ?_|(refine ⟨fun hc => ?_, fun hc => ?_⟩)|(intro hc; try omega))
      all_goals skip
  · have e1 : errPt a b c u = errFor a b c := by rw [errPt, if_neg he]
    have e2 : partPE a b c u = [] := if_neg (by omega)
    replace hnl := And.intro hnl (And.intro (eq_false he) (And.intro e1 e2))
    repeat' (first|(refine goK (by assumption) ?_; iterate 4 (try clear hK K))|(refine tri_seqk fun K hK => ?_)|((first|refine tri_region hE rfl ?_|refine tri_ret ?_|((first|refine tri_drawP hE 1 rfl rfl (by kernel_rfl) ?_|refine tri_drawP hE 2 rfl rfl (by kernel_rfl) ?_|refine tri_drawP hE 3 rfl rfl (by kernel_rfl) ?_|refine tri_drawP hE 4 rfl rfl (by kernel_rfl) ?_); simp only [List.length_cons, List.length_nil, Nat.reduceAdd, Nat.reduceSub, List.take_succ_cons, List.take_zero, List.drop_succ_cons, List.drop_zero])); simp +contextual only [hnl, ↓kN, ↓kP, ↓kG, ↓qN, ↓qP, ↓qG, push_cast, Int.reduceEq, Int.reduceLT, Int.reduceLE, Int.reduceNeg, Nat.reduceLT, Nat.reduceLeDiff, Int.reduceToNat, Int.cast_ofNat_Int, Nat.reduceBEq, Nat.reduceMul, Nat.reduceEqDiff, reduceCtorEq, Nat.reduceAdd])|refine tri_block ?_|((first|refine tri_skip ?_|refine tri_exit ?_); simp only [thenQ, blockQ, if_true, if_false, Nat.reduceEqDiff, reduceCtorEq])|(refine tri_cond (by rfl) (fun hb => ?_) (fun hb => ?_) <;> (try simp only [decide_eq_true_eq, decide_eq_false_iff_not, Bool.not_eq_true', Bool.not_eq_false', reduceCtorEq, Bool.true_eq_false, Bool.false_eq_true] at hb) <;> (try omega))|refine tri_unk (by rfl) ?_ ?_|refine And.intro (by first|omega|(unfold InR; omega)|assumption|decide|exact ⟨_, _, rfl⟩) ?_|(refine ⟨fun hc => ?_, fun hc => ?_⟩)|(intro hc; try omega))
    all_goals skip

/-- Whether a table is right for so many units. -/
structure PartOK (a b : List Int) (c : List (List Int)) (u : Int) (t : List (List Int)) : Prop where
  e : errPt a b c u = 0
  lo : errLo a b t = 0
  mv : movK t t.length = u
  sp : spend c t = partV a b c u.toNat
theorem partOK_iff {a b : List Int} {c : List (List Int)} {u : Int} {t : List (List Int)} : PartOK a b c u t ↔ (errPt a b c u = 0 ∧ errLo a b t = 0 ∧ movK t t.length = u ∧ spend c t = partV a b c u.toNat) :=
  ⟨fun ⟨a, b, c, d⟩ => ⟨a, b, c, d⟩, fun ⟨a, b, c, d⟩ => ⟨a, b, c, d⟩⟩
instance (a b : List Int) (c : List (List Int)) (u : Int) (t : List (List Int)) : Decidable (PartOK a b c u t) := decidable_of_iff _ partOK_iff.symm
theorem errLo_ok {a b : List Int} {t : List (List Int)} (h : errLo a b t = 0) : InPlan t ∧ LooseP a b t := by
  unfold errLo at h
  split at h
  · rename_i h2
    split at h
    · rename_i h3; exact ⟨errPlan_in h2.2.2, h3⟩
    · omega
  · omega
@[push_cast] def chPartCon : Con := ⟨[.dat (.sl .int), .dat (.sl .int), .dat (.sl (.sl .int)), .dat .int, .dat (.sl (.sl .int))], fun _ => True, fun (x : List Int × List Int × List (List Int) × Int × List (List Int) × Unit) =>
  { res := [.val .bool (decide (PartOK x.1 x.2.1 x.2.2.1 x.2.2.2.1 x.2.2.2.2.1)), .val .int (errPt x.1 x.2.1 x.2.2.1 x.2.2.2.1)] }⟩
theorem chPart_spec : FnSpec Try.prog 32 chPartCon := by
  refine FnSpec.of_tri' (E := know [(69, forCon), (27, totalCon), (64, withinCon), (43, loCon), (79, movCon), (80, spendCon), (81, partCon)] [] [] []) (know_ok (all_cons for_spec (all_cons qtotal_spec (all_cons r8within_spec (all_cons r8lo_spec (all_cons r8mov_spec (all_cons spent_spec (all_cons r8part_spec all_nil))))))) all_nil all_nil) Try.func32 rfl rfl (by kernel_rfl) ?_
  intro C x hE hnl hfit hpre
  simp only [Try.ntmps32, Try.results32, maxLen, Nat.reduceSub, Nat.reducePow, Nat.reduceAdd, Int.cast_ofNat_Int, push_cast] at hnl hfit hpre ⊢
  obtain ⟨(a : List Int), (b : List Int), (c : List (List Int)), (u : Int), (t : List (List Int)), _⟩ := x
  dsimp only at hfit hpre ⊢
  have pN : ¬ PartOK a b c u t → decide (PartOK a b c u t) = false := decide_eq_false
  by_cases he : errFor a b c = 0
  · have hf := errFor_ok he
    have hm := hf.mc
    have hmn := maxU_min hf
    obtain ⟨s1, s2, s3, s4⟩ := MC.sums hf
    by_cases hu : InU a b u
    · have e1 : errPt a b c u = 0 := by rw [errPt, if_pos he, if_pos hu]
      by_cases hl : errLo a b t = 0
      · obtain ⟨g1, g2⟩ := errLo_ok hl
        have hfit2 := lo_fit hf g1 g2
        by_cases hmv : movK t t.length = u
        · have pE : decide (PartOK a b c u t) = decide (spend c t = partV a b c u.toNat) := decide_eq_decide.2 ⟨fun h => h.sp, fun h => ⟨e1, hl, hmv, h⟩⟩
          replace hnl := And.intro hnl (And.intro boolsA (And.intro he (And.intro hf (And.intro hmn (And.intro (fun m => eq_true (s1 m)) (And.intro (fun m => eq_true (s2 m)) (And.intro (eq_true hu.1) (And.intro (eq_true hu.2) (And.intro e1 (And.intro hl (And.intro g1 (And.intro hfit2 (And.intro (eq_true hmv) pE)))))))))))))
          repeat' (first|(refine goK (by assumption) ?_; iterate 4 (try clear hK K))|(refine tri_seqk fun K hK => ?_)|((first|refine tri_region hE rfl ?_|refine tri_ret ?_|((first|refine tri_drawP hE 1 rfl rfl (by kernel_rfl) ?_|refine tri_drawP hE 2 rfl rfl (by kernel_rfl) ?_|refine tri_drawP hE 3 rfl rfl (by kernel_rfl) ?_|refine tri_drawP hE 4 rfl rfl (by kernel_rfl) ?_); simp only [List.length_cons, List.length_nil, Nat.reduceAdd, Nat.reduceSub, List.take_succ_cons, List.take_zero, List.drop_succ_cons, List.drop_zero])); simp +contextual only [hnl, ↓kN, ↓kP, ↓kG, ↓qN, ↓qP, ↓qG, push_cast, Int.reduceEq, Int.reduceLT, Int.reduceLE, Int.reduceNeg, Nat.reduceLT, Nat.reduceLeDiff, Int.reduceToNat, Int.cast_ofNat_Int, Nat.reduceBEq, Nat.reduceMul, Nat.reduceEqDiff, reduceCtorEq, Nat.reduceAdd])|refine tri_block ?_|((first|refine tri_skip ?_|refine tri_exit ?_); simp only [thenQ, blockQ, if_true, if_false, Nat.reduceEqDiff, reduceCtorEq])|(refine tri_cond (by rfl) (fun hb => ?_) (fun hb => ?_) <;> (try simp only [decide_eq_true_eq, decide_eq_false_iff_not, Bool.not_eq_true', Bool.not_eq_false', reduceCtorEq, Bool.true_eq_false, Bool.false_eq_true] at hb) <;> (try omega))|refine tri_unk (by rfl) ?_ ?_|refine And.intro (by first|omega|(unfold InR; omega)|assumption|decide|exact ⟨_, _, rfl⟩) ?_|(refine ⟨fun hc => ?_, fun hc => ?_⟩)|(intro hc; try omega))
          all_goals skip
        · have pE := pN fun h => hmv h.mv
          replace hnl := And.intro hnl (And.intro boolsA (And.intro he (And.intro hf (And.intro hmn (And.intro (fun m => eq_true (s1 m)) (And.intro (fun m => eq_true (s2 m)) (And.intro (eq_true hu.1) (And.intro (eq_true hu.2) (And.intro e1 (And.intro hl (And.intro g1 (And.intro hfit2 (And.intro (eq_false hmv) pE)))))))))))))
          repeat' (first|(refine goK (by assumption) ?_; iterate 4 (try clear hK K))|(refine tri_seqk fun K hK => ?_)|((first|refine tri_region hE rfl ?_|refine tri_ret ?_|((first|refine tri_drawP hE 1 rfl rfl (by kernel_rfl) ?_|refine tri_drawP hE 2 rfl rfl (by kernel_rfl) ?_|refine tri_drawP hE 3 rfl rfl (by kernel_rfl) ?_|refine tri_drawP hE 4 rfl rfl (by kernel_rfl) ?_); simp only [List.length_cons, List.length_nil, Nat.reduceAdd, Nat.reduceSub, List.take_succ_cons, List.take_zero, List.drop_succ_cons, List.drop_zero])); simp +contextual only [hnl, ↓kN, ↓kP, ↓kG, ↓qN, ↓qP, ↓qG, push_cast, Int.reduceEq, Int.reduceLT, Int.reduceLE, Int.reduceNeg, Nat.reduceLT, Nat.reduceLeDiff, Int.reduceToNat, Int.cast_ofNat_Int, Nat.reduceBEq, Nat.reduceMul, Nat.reduceEqDiff, reduceCtorEq, Nat.reduceAdd])|refine tri_block ?_|((first|refine tri_skip ?_|refine tri_exit ?_); simp only [thenQ, blockQ, if_true, if_false, Nat.reduceEqDiff, reduceCtorEq])|(refine tri_cond (by rfl) (fun hb => ?_) (fun hb => ?_) <;> (try simp only [decide_eq_true_eq, decide_eq_false_iff_not, Bool.not_eq_true', Bool.not_eq_false', reduceCtorEq, Bool.true_eq_false, Bool.false_eq_true] at hb) <;> (try omega))|refine tri_unk (by rfl) ?_ ?_|refine And.intro (by first|omega|(unfold InR; omega)|assumption|decide|exact ⟨_, _, rfl⟩) ?_|(refine ⟨fun hc => ?_, fun hc => ?_⟩)|(intro hc; try omega))
          all_goals skip
      · have pE := pN fun h => hl h.lo
        replace hnl := And.intro hnl (And.intro boolsA (And.intro he (And.intro hf (And.intro hmn (And.intro (fun m => eq_true (s1 m)) (And.intro (fun m => eq_true (s2 m)) (And.intro (eq_true hu.1) (And.intro (eq_true hu.2) (And.intro e1 (And.intro (eq_false hl) pE))))))))))
        repeat' (first|(refine goK (by assumption) ?_; iterate 4 (try clear hK K))|(refine tri_seqk fun K hK => ?_)|((first|refine tri_region hE rfl ?_|refine tri_ret ?_|((first|refine tri_drawP hE 1 rfl rfl (by kernel_rfl) ?_|refine tri_drawP hE 2 rfl rfl (by kernel_rfl) ?_|refine tri_drawP hE 3 rfl rfl (by kernel_rfl) ?_|refine tri_drawP hE 4 rfl rfl (by kernel_rfl) ?_); simp only [List.length_cons, List.length_nil, Nat.reduceAdd, Nat.reduceSub, List.take_succ_cons, List.take_zero, List.drop_succ_cons, List.drop_zero])); simp +contextual only [hnl, ↓kN, ↓kP, ↓kG, ↓qN, ↓qP, ↓qG, push_cast, Int.reduceEq, Int.reduceLT, Int.reduceLE, Int.reduceNeg, Nat.reduceLT, Nat.reduceLeDiff, Int.reduceToNat, Int.cast_ofNat_Int, Nat.reduceBEq, Nat.reduceMul, Nat.reduceEqDiff, reduceCtorEq, Nat.reduceAdd])|refine tri_block ?_|((first|refine tri_skip ?_|refine tri_exit ?_); simp only [thenQ, blockQ, if_true, if_false, Nat.reduceEqDiff, reduceCtorEq])|(refine tri_cond (by rfl) (fun hb => ?_) (fun hb => ?_) <;> (try simp only [decide_eq_true_eq, decide_eq_false_iff_not, Bool.not_eq_true', Bool.not_eq_false', reduceCtorEq, Bool.true_eq_false, Bool.false_eq_true] at hb) <;> (try omega))|refine tri_unk (by rfl) ?_ ?_|refine And.intro (by first|omega|(unfold InR; omega)|assumption|decide|exact ⟨_, _, rfl⟩) ?_|(refine ⟨fun hc => ?_, fun hc => ?_⟩)|(intro hc; try omega))
        all_goals skip
    · have e1 : errPt a b c u = 1 := by rw [errPt, if_pos he, if_neg hu]
      have e3 : (0 ≤ u ∧ u ≤ (maxU a b : Int)) = False := eq_false hu
      have pE := pN fun h => by have := h.e; omega
      replace hnl := And.intro hnl (And.intro boolsA (And.intro he (And.intro hm (And.intro hmn (And.intro (fun m => eq_true (s1 m)) (And.intro (fun m => eq_true (s2 m)) (And.intro e1 (And.intro e3 pE))))))))
      repeat' (first|(refine goK (by assumption) ?_; iterate 4 (try clear hK K))|(refine tri_seqk fun K hK => ?_)|((first|refine tri_region hE rfl ?_|refine tri_ret ?_|((first|refine tri_drawP hE 1 rfl rfl (by kernel_rfl) ?_|refine tri_drawP hE 2 rfl rfl (by kernel_rfl) ?_|refine tri_drawP hE 3 rfl rfl (by kernel_rfl) ?_|refine tri_drawP hE 4 rfl rfl (by kernel_rfl) ?_); simp only [List.length_cons, List.length_nil, Nat.reduceAdd, Nat.reduceSub, List.take_succ_cons, List.take_zero, List.drop_succ_cons, List.drop_zero])); simp +contextual only [hnl, ↓kN, ↓kP, ↓kG, ↓qN, ↓qP, ↓qG, push_cast, Int.reduceEq, Int.reduceLT, Int.reduceLE, Int.reduceNeg, Nat.reduceLT, Nat.reduceLeDiff, Int.reduceToNat, Int.cast_ofNat_Int, Nat.reduceBEq, Nat.reduceMul, Nat.reduceEqDiff, reduceCtorEq, Nat.reduceAdd])|refine tri_block ?_|((first|refine tri_skip ?_|refine tri_exit ?_); simp only [thenQ, blockQ, if_true, if_false, Nat.reduceEqDiff, reduceCtorEq])|(refine tri_cond (by rfl) (fun hb => ?_) (fun hb => ?_) <;> (try simp only [decide_eq_true_eq, decide_eq_false_iff_not, Bool.not_eq_true', Bool.not_eq_false', reduceCtorEq, Bool.true_eq_false, Bool.false_eq_true] at hb) <;> (try omega))|refine tri_unk (by rfl) ?_ ?_|refine And.intro (by first|omega|(unfold InR; omega)|assumption|decide|exact ⟨_, _, rfl⟩) ?_|(refine ⟨fun hc => ?_, fun hc => ?_⟩)|(intro hc; try omega))
      all_goals skip
  · have e1 : errPt a b c u = errFor a b c := by rw [errPt, if_neg he]
    have pE := pN fun h => by have := h.e; omega
    replace hnl := And.intro hnl (And.intro (eq_false he) (And.intro e1 pE))
    repeat' (first|(refine goK (by assumption) ?_; iterate 4 (try clear hK K))|(refine tri_seqk fun K hK => ?_)|((first|refine tri_region hE rfl ?_|refine tri_ret ?_|((first|refine tri_drawP hE 1 rfl rfl (by kernel_rfl) ?_|refine tri_drawP hE 2 rfl rfl (by kernel_rfl) ?_|refine tri_drawP hE 3 rfl rfl (by kernel_rfl) ?_|refine tri_drawP hE 4 rfl rfl (by kernel_rfl) ?_); simp only [List.length_cons, List.length_nil, Nat.reduceAdd, Nat.reduceSub, List.take_succ_cons, List.take_zero, List.drop_succ_cons, List.drop_zero])); simp +contextual only [hnl, ↓kN, ↓kP, ↓kG, ↓qN, ↓qP, ↓qG, push_cast, Int.reduceEq, Int.reduceLT, Int.reduceLE, Int.reduceNeg, Nat.reduceLT, Nat.reduceLeDiff, Int.reduceToNat, Int.cast_ofNat_Int, Nat.reduceBEq, Nat.reduceMul, Nat.reduceEqDiff, reduceCtorEq, Nat.reduceAdd])|refine tri_block ?_|((first|refine tri_skip ?_|refine tri_exit ?_); simp only [thenQ, blockQ, if_true, if_false, Nat.reduceEqDiff, reduceCtorEq])|(refine tri_cond (by rfl) (fun hb => ?_) (fun hb => ?_) <;> (try simp only [decide_eq_true_eq, decide_eq_false_iff_not, Bool.not_eq_true', Bool.not_eq_false', reduceCtorEq, Bool.true_eq_false, Bool.false_eq_true] at hb) <;> (try omega))|refine tri_unk (by rfl) ?_ ?_|refine And.intro (by first|omega|(unfold InR; omega)|assumption|decide|exact ⟨_, _, rfl⟩) ?_|(refine ⟨fun hc => ?_, fun hc => ?_⟩)|(intro hc; try omega))
    all_goals skip

theorem wide_plan {t : List (List Int)} (h : InPlan t) : wideV t = false := by
  unfold wideV
  have h1 := h.rows
  have h2 := h.cols
  rw [decide_eq_false (by omega), Bool.or_false, List.any_eq_false]
  intro r hr
  have := h.len r hr
  simp only [decide_eq_true_eq]
  omega
theorem part_ok {a b : List Int} {c : List (List Int)} {u : Int} (h : errPt a b c u = 0) : PartOK a b c u (partPE a b c u) ∧ wideV (partPE a b c u) = false := by
  obtain ⟨hf, h0, h1⟩ := errPt_ok h
  have e : partPE a b c u = stepP a b c u.toNat := if_pos h
  obtain ⟨g1, g2, g3, g4⟩ := step_lo hf (k := u.toNat) (by omega)
  rw [e]
  refine ⟨⟨h, ?_, by rw [g3]; omega, g4⟩, wide_plan g1⟩
  rw [errLo, if_pos ⟨if_pos hf.ha, if_pos hf.hb, errPlan_0 g1⟩, if_pos g2]
theorem lpart_fn : FnSpec Try.prog 7 trueAm := by
  refine FnSpec.of_tri' (E := know [(15, longJCon), (16, known8Con), (30, lPartCon), (31, wideCon), (32, chPartCon)] [] [] []) (know_ok (all_cons longJ_spec (all_cons known8_spec (all_cons lPart_spec (all_cons wide_spec (all_cons chPart_spec all_nil))))) all_nil all_nil) Try.func7 rfl rfl (by kernel_rfl) ?_
  intro C x hE hnl hfit hpre
  simp only [Try.ntmps7, Try.results7, maxLen, Nat.reduceSub, Nat.reducePow, Nat.reduceAdd, Int.cast_ofNat_Int, push_cast] at hnl hfit hpre ⊢
  obtain ⟨⟨(a : List Int), (b : List Int), (c : List (List Int))⟩, (u : Int), _⟩ := x
  dsimp only at hfit hpre ⊢
  by_cases he : errPt a b c u = 0
  · obtain ⟨h1, h2⟩ := part_ok he
    replace hnl := And.intro hnl (And.intro boolsA (And.intro he (And.intro (eq_true h1) h2)))
    repeat' (first|(refine goK (by assumption) ?_; iterate 4 (try clear hK K))|(refine tri_seqk fun K hK => ?_)|((first|refine tri_region hE rfl ?_|refine tri_ret ?_|((first|refine tri_drawP hE 1 rfl rfl (by kernel_rfl) ?_|refine tri_drawP hE 2 rfl rfl (by kernel_rfl) ?_|refine tri_drawP hE 3 rfl rfl (by kernel_rfl) ?_|refine tri_drawP hE 4 rfl rfl (by kernel_rfl) ?_); simp only [List.length_cons, List.length_nil, Nat.reduceAdd, Nat.reduceSub, List.take_succ_cons, List.take_zero, List.drop_succ_cons, List.drop_zero])); simp +contextual only [hnl, ↓kN, ↓kP, ↓kG, ↓qN, ↓qP, ↓qG, push_cast, Int.reduceEq, Int.reduceLT, Int.reduceLE, Int.reduceNeg, Nat.reduceLT, Nat.reduceLeDiff, Int.reduceToNat, Int.cast_ofNat_Int, Nat.reduceBEq, Nat.reduceMul, Nat.reduceEqDiff, reduceCtorEq, Nat.reduceAdd])|refine tri_block ?_|((first|refine tri_skip ?_|refine tri_exit ?_); simp only [thenQ, blockQ, if_true, if_false, Nat.reduceEqDiff, reduceCtorEq])|(refine tri_cond (by rfl) (fun hb => ?_) (fun hb => ?_) <;> (try simp only [decide_eq_true_eq, decide_eq_false_iff_not, Bool.not_eq_true', Bool.not_eq_false', reduceCtorEq, Bool.true_eq_false, Bool.false_eq_true] at hb) <;> (try omega))|refine tri_unk (by rfl) ?_ ?_|refine And.intro (by first|omega|(unfold InR; omega)|assumption|decide|exact ⟨_, _, rfl⟩) ?_|(refine ⟨fun hc => ?_, fun hc => ?_⟩)|(intro hc; try omega))
    all_goals skip
  · have e2 : partPE a b c u = [] := if_neg he
    have e3 : wideV [] = false := rfl
    replace hnl := And.intro hnl (And.intro boolsA (And.intro (eq_false he) (And.intro e2 e3)))
    repeat' (first|(refine goK (by assumption) ?_; iterate 4 (try clear hK K))|(refine tri_seqk fun K hK => ?_)|((first|refine tri_region hE rfl ?_|refine tri_ret ?_|((first|refine tri_drawP hE 1 rfl rfl (by kernel_rfl) ?_|refine tri_drawP hE 2 rfl rfl (by kernel_rfl) ?_|refine tri_drawP hE 3 rfl rfl (by kernel_rfl) ?_|refine tri_drawP hE 4 rfl rfl (by kernel_rfl) ?_); simp only [List.length_cons, List.length_nil, Nat.reduceAdd, Nat.reduceSub, List.take_succ_cons, List.take_zero, List.drop_succ_cons, List.drop_zero])); simp +contextual only [hnl, ↓kN, ↓kP, ↓kG, ↓qN, ↓qP, ↓qG, push_cast, Int.reduceEq, Int.reduceLT, Int.reduceLE, Int.reduceNeg, Nat.reduceLT, Nat.reduceLeDiff, Int.reduceToNat, Int.cast_ofNat_Int, Nat.reduceBEq, Nat.reduceMul, Nat.reduceEqDiff, reduceCtorEq, Nat.reduceAdd])|refine tri_block ?_|((first|refine tri_skip ?_|refine tri_exit ?_); simp only [thenQ, blockQ, if_true, if_false, Nat.reduceEqDiff, reduceCtorEq])|(refine tri_cond (by rfl) (fun hb => ?_) (fun hb => ?_) <;> (try simp only [decide_eq_true_eq, decide_eq_false_iff_not, Bool.not_eq_true', Bool.not_eq_false', reduceCtorEq, Bool.true_eq_false, Bool.false_eq_true] at hb) <;> (try omega))|refine tri_unk (by rfl) ?_ ?_|refine And.intro (by first|omega|(unfold InR; omega)|assumption|decide|exact ⟨_, _, rfl⟩) ?_|(refine ⟨fun hc => ?_, fun hc => ?_⟩)|(intro hc; try omega))
    all_goals skip
end Go.Proofs.Ythncebdmmfhhjaa
