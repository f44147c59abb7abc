/- From which waste on all is moved; the statement LooseThresholds. Conditions: in each contract. -/
import Derived.Test.YthncebdmmfhhjaaSt
namespace Go.Proofs.Ythncebdmmfhhjaa
open Go.RowKit Go.VS Go.OT Go.LC
set_option linter.unusedSimpArgs false
set_option linter.unusedVariables false

theorem r8thr_spec : FnSpec Try.prog 29 lThrCon := by
  refine FnSpec.of_tri' (E := know [(69, forCon), (70, partsCon), (74, amtCon)] [] [] []) (know_ok (all_cons for_spec (all_cons r8parts_spec (all_cons amt_spec all_nil))) all_nil all_nil) Try.func29 rfl rfl (by kernel_rfl) ?_
  intro C x hE hnl hfit hpre
  simp only [Try.ntmps29, Try.results29, maxLen, Nat.reduceSub, Nat.reducePow, Nat.reduceAdd, Int.cast_ofNat_Int, push_cast] at hnl hfit hpre ⊢
  obtain ⟨(a : List Int), (b : List Int), (c : List (List Int)), _⟩ := x
  dsimp only at hfit hpre ⊢
  by_cases he : errFor a b c = 0
  · have hf := errFor_ok he
    have hm := hf.mc
    have h3 : thrE a b c = thrV a b c := if_pos he
    have ht := thr_bnd hm
    have hl := partsL_len a b c (maxU a b)
    have hmx := maxU_bnd hm
    replace hnl := And.intro hnl (And.intro he (And.intro h3 hf))
    repeat' (first|(refine goK (by assumption) ?_; iterate 4 (try clear hK K))|(refine tri_seqk fun K hK => ?_)|((first|refine tri_region hE rfl ?_|refine tri_ret ?_|((first|refine tri_drawP hE 1 rfl rfl (by kernel_rfl) ?_|refine tri_drawP hE 2 rfl rfl (by kernel_rfl) ?_|refine tri_drawP hE 3 rfl rfl (by kernel_rfl) ?_|refine tri_drawP hE 4 rfl rfl (by kernel_rfl) ?_); simp only [List.length_cons, List.length_nil, Nat.reduceAdd, Nat.reduceSub, List.take_succ_cons, List.take_zero, List.drop_succ_cons, List.drop_zero])); simp +contextual only [hnl, ↓kN, ↓kP, ↓kG, ↓qN, ↓qP, ↓qG, push_cast, Int.reduceEq, Int.reduceLT, Int.reduceLE, Int.reduceNeg, Nat.reduceLT, Nat.reduceLeDiff, Int.reduceToNat, Int.cast_ofNat_Int, Nat.reduceBEq, Nat.reduceMul, Nat.reduceEqDiff, reduceCtorEq, Nat.reduceAdd])|refine tri_block ?_|((first|refine tri_skip ?_|refine tri_exit ?_); simp only [thenQ, blockQ, if_true, if_false, Nat.reduceEqDiff, reduceCtorEq])|(refine tri_cond (by rfl) (fun hb => ?_) (fun hb => ?_) <;> (try simp only [decide_eq_true_eq, decide_eq_false_iff_not, Bool.not_eq_true', Bool.not_eq_false', reduceCtorEq, Bool.true_eq_false, Bool.false_eq_true] at hb) <;> (try omega))|refine tri_unk (by rfl) ?_ ?_|refine And.intro (by first|omega|(unfold InR; omega)|assumption|decide|exact ⟨_, _, rfl⟩) ?_|(refine ⟨fun hc => ?_, fun hc => ?_⟩)|(intro hc; try omega))
    refine tri_loopI (fun k : Nat => AS.of [(0, .one (.val (.sl .int) a)), (1, .one (.val (.sl .int) b)), (9, .one (.val (.sl .int) (partsL a b c (maxU a b)))), (10, .I k)] [] []) (fun k => (k : Int) ≤ thrV a b c) (fun k => 100 - k) 0 (by omega) ?_ ?_
    · refine weak_of ?_ ?_ ?_ <;> simp only [push_cast, Int.reduceEq, Int.reduceLT, Int.reduceLE, Int.reduceNeg, Nat.reduceLT, Nat.reduceLeDiff, Int.reduceToNat, Int.cast_ofNat_Int, Nat.reduceBEq, Nat.reduceMul, Nat.reduceEqDiff, reduceCtorEq, Nat.reduceAdd]
      all_goals skip
    intro k hk K' hL
    obtain ⟨h1, h2⟩ := parts_am hf (w := k) (by omega)
    have e3 : (partsL a b c (maxU a b)).length - 1 = maxU a b := by omega
    have e4 : ((partsL a b c (maxU a b)).length : Int) - 1 = maxU a b := by omega
    have hall := most_all hm (k : Int) (by omega)
    replace hnl := And.intro hnl (And.intro (eq_true h1) (And.intro h2 (And.intro e3 e4)))
    repeat' (first|(refine goK (by assumption) ?_; iterate 4 (try clear hK K))|(refine tri_seqk fun K hK => ?_)|((first|refine tri_region hE rfl ?_|refine tri_ret ?_|((first|refine tri_drawP hE 1 rfl rfl (by kernel_rfl) ?_|refine tri_drawP hE 2 rfl rfl (by kernel_rfl) ?_|refine tri_drawP hE 3 rfl rfl (by kernel_rfl) ?_|refine tri_drawP hE 4 rfl rfl (by kernel_rfl) ?_); simp only [List.length_cons, List.length_nil, Nat.reduceAdd, Nat.reduceSub, List.take_succ_cons, List.take_zero, List.drop_succ_cons, List.drop_zero])); simp +contextual only [hnl, ↓kN, ↓kP, ↓kG, ↓qN, ↓qP, ↓qG, push_cast, Int.reduceEq, Int.reduceLT, Int.reduceLE, Int.reduceNeg, Nat.reduceLT, Nat.reduceLeDiff, Int.reduceToNat, Int.cast_ofNat_Int, Nat.reduceBEq, Nat.reduceMul, Nat.reduceEqDiff, reduceCtorEq, Nat.reduceAdd])|refine tri_block ?_|((first|refine tri_skip ?_|refine tri_exit ?_); simp only [thenQ, blockQ, if_true, if_false, Nat.reduceEqDiff, reduceCtorEq])|(refine tri_cond (by rfl) (fun hb => ?_) (fun hb => ?_) <;> (try simp only [decide_eq_true_eq, decide_eq_false_iff_not, Bool.not_eq_true', Bool.not_eq_false', reduceCtorEq, Bool.true_eq_false, Bool.false_eq_true] at hb) <;> (try omega))|refine tri_unk (by rfl) ?_ ?_|refine And.intro (by first|omega|(unfold InR; omega)|assumption|decide|exact ⟨_, _, rfl⟩) ?_|(refine ⟨fun hc => ?_, fun hc => ?_⟩)|(intro hc; try omega))
    · exact Int.le_antisymm hk (hall.1 (by omega))
    · have hne : ¬ thrV a b c ≤ (k : Int) := fun h => absurd (hall.2 h) (by omega)
      refine hL _ (k + 1) (by omega) (by omega) ?_
      refine weak_of ?_ ?_ ?_ <;> simp only [push_cast, Int.reduceEq, Int.reduceLT, Int.reduceLE, Int.reduceNeg, Nat.reduceLT, Nat.reduceLeDiff, Int.reduceToNat, Int.cast_ofNat_Int, Nat.reduceBEq, Nat.reduceMul, Nat.reduceEqDiff, reduceCtorEq, Nat.reduceAdd]
      all_goals skip
  · have h3 : thrE a b c = 0 := if_neg he
    replace hnl := And.intro hnl (And.intro h3 (eq_false he))
    repeat' (first|(refine goK (by assumption) ?_; iterate 4 (try clear hK K))|(refine tri_seqk fun K hK => ?_)|((first|refine tri_region hE rfl ?_|refine tri_ret ?_|((first|refine tri_drawP hE 1 rfl rfl (by kernel_rfl) ?_|refine tri_drawP hE 2 rfl rfl (by kernel_rfl) ?_|refine tri_drawP hE 3 rfl rfl (by kernel_rfl) ?_|refine tri_drawP hE 4 rfl rfl (by kernel_rfl) ?_); simp only [List.length_cons, List.length_nil, Nat.reduceAdd, Nat.reduceSub, List.take_succ_cons, List.take_zero, List.drop_succ_cons, List.drop_zero])); simp +contextual only [hnl, ↓kN, ↓kP, ↓kG, ↓qN, ↓qP, ↓qG, push_cast, Int.reduceEq, Int.reduceLT, Int.reduceLE, Int.reduceNeg, Nat.reduceLT, Nat.reduceLeDiff, Int.reduceToNat, Int.cast_ofNat_Int, Nat.reduceBEq, Nat.reduceMul, Nat.reduceEqDiff, reduceCtorEq, Nat.reduceAdd])|refine tri_block ?_|((first|refine tri_skip ?_|refine tri_exit ?_); simp only [thenQ, blockQ, if_true, if_false, Nat.reduceEqDiff, reduceCtorEq])|(refine tri_cond (by rfl) (fun hb => ?_) (fun hb => ?_) <;> (try simp only [decide_eq_true_eq, decide_eq_false_iff_not, Bool.not_eq_true', Bool.not_eq_false', reduceCtorEq, Bool.true_eq_false, Bool.false_eq_true] at hb) <;> (try omega))|refine tri_unk (by rfl) ?_ ?_|refine And.intro (by first|omega|(unfold InR; omega)|assumption|decide|exact ⟨_, _, rfl⟩) ?_|(refine ⟨fun hc => ?_, fun hc => ?_⟩)|(intro hc; try omega))
    all_goals skip

theorem lthr_fn : FnSpec Try.prog 6 trueAm := by
  refine FnSpec.of_tri' (E := know [(15, longJCon), (16, known8Con), (28, lThrCon), (29, lThrCon), (24, amountCon), (27, totalCon)] [] [] []) (know_ok (all_cons longJ_spec (all_cons known8_spec (all_cons lThr_spec (all_cons r8thr_spec (all_cons lAmount_spec (all_cons qtotal_spec all_nil)))))) all_nil all_nil) Try.func6 rfl rfl (by kernel_rfl) ?_
  intro C x hE hnl hfit hpre
  simp only [Try.ntmps6, Try.results6, maxLen, Nat.reduceSub, Nat.reducePow, Nat.reduceAdd, Int.cast_ofNat_Int, push_cast] at hnl hfit hpre ⊢
  obtain ⟨⟨(a : List Int), (b : List Int), (c : List (List Int))⟩, (w : Int), _⟩ := x
  dsimp only at hfit hpre ⊢
  by_cases he : errWd a b c w = 0
  · obtain ⟨hf, hw⟩ := errWd_ok he
    have hm := hf.mc
    have hF : errFor a b c = 0 := errFor_0 hf
    have e2 : mostE a b c w = mostK a b c w := if_pos he
    have e3 : thrE a b c = thrV a b c := if_pos hF
    have ht := thr_bnd hm
    have hmn := maxU_min hf
    obtain ⟨s1, s2, s3, s4⟩ := MC.sums hf
    have hall := most_all hm w hw.1
    by_cases hq : thrV a b c ≤ w
    · have q1 : ((mostK a b c w : Int) = (maxU a b : Int)) = True := eq_true (by have := hall.2 hq; omega)
      replace hnl := And.intro hnl (And.intro boolsA (And.intro he (And.intro hF (And.intro (fun m => eq_true (s1 m)) (And.intro (fun m => eq_true (s2 m)) (And.intro e2 (And.intro e3 (And.intro hmn (And.intro q1 (eq_true hq))))))))))
      repeat' (first|(refine goK (by assumption) ?_; iterate 4 (try clear hK K))|(refine tri_seqk fun K hK => ?_)|((first|refine tri_region hE rfl ?_|refine tri_ret ?_|((first|refine tri_drawP hE 1 rfl rfl (by kernel_rfl) ?_|refine tri_drawP hE 2 rfl rfl (by kernel_rfl) ?_|refine tri_drawP hE 3 rfl rfl (by kernel_rfl) ?_|refine tri_drawP hE 4 rfl rfl (by kernel_rfl) ?_); simp only [List.length_cons, List.length_nil, Nat.reduceAdd, Nat.reduceSub, List.take_succ_cons, List.take_zero, List.drop_succ_cons, List.drop_zero])); simp +contextual only [hnl, ↓kN, ↓kP, ↓kG, ↓qN, ↓qP, ↓qG, push_cast, Int.reduceEq, Int.reduceLT, Int.reduceLE, Int.reduceNeg, Nat.reduceLT, Nat.reduceLeDiff, Int.reduceToNat, Int.cast_ofNat_Int, Nat.reduceBEq, Nat.reduceMul, Nat.reduceEqDiff, reduceCtorEq, Nat.reduceAdd])|refine tri_block ?_|((first|refine tri_skip ?_|refine tri_exit ?_); simp only [thenQ, blockQ, if_true, if_false, Nat.reduceEqDiff, reduceCtorEq])|(refine tri_cond (by rfl) (fun hb => ?_) (fun hb => ?_) <;> (try simp only [decide_eq_true_eq, decide_eq_false_iff_not, Bool.not_eq_true', Bool.not_eq_false', reduceCtorEq, Bool.true_eq_false, Bool.false_eq_true] at hb) <;> (try omega))|refine tri_unk (by rfl) ?_ ?_|refine And.intro (by first|omega|(unfold InR; omega)|assumption|decide|exact ⟨_, _, rfl⟩) ?_|(refine ⟨fun hc => ?_, fun hc => ?_⟩)|(intro hc; try omega))
      all_goals skip
    · have q1 : ((mostK a b c w : Int) = (maxU a b : Int)) = False := eq_false fun h => hq (hall.1 (by omega))
      replace hnl := And.intro hnl (And.intro boolsA (And.intro he (And.intro hF (And.intro (fun m => eq_true (s1 m)) (And.intro (fun m => eq_true (s2 m)) (And.intro e2 (And.intro e3 (And.intro hmn (And.intro q1 (eq_false hq))))))))))
      repeat' (first|(refine goK (by assumption) ?_; iterate 4 (try clear hK K))|(refine tri_seqk fun K hK => ?_)|((first|refine tri_region hE rfl ?_|refine tri_ret ?_|((first|refine tri_drawP hE 1 rfl rfl (by kernel_rfl) ?_|refine tri_drawP hE 2 rfl rfl (by kernel_rfl) ?_|refine tri_drawP hE 3 rfl rfl (by kernel_rfl) ?_|refine tri_drawP hE 4 rfl rfl (by kernel_rfl) ?_); simp only [List.length_cons, List.length_nil, Nat.reduceAdd, Nat.reduceSub, List.take_succ_cons, List.take_zero, List.drop_succ_cons, List.drop_zero])); simp +contextual only [hnl, ↓kN, ↓kP, ↓kG, ↓qN, ↓qP, ↓qG, push_cast, Int.reduceEq, Int.reduceLT, Int.reduceLE, Int.reduceNeg, Nat.reduceLT, Nat.reduceLeDiff, Int.reduceToNat, Int.cast_ofNat_Int, Nat.reduceBEq, Nat.reduceMul, Nat.reduceEqDiff, reduceCtorEq, Nat.reduceAdd])|refine tri_block ?_|((first|refine tri_skip ?_|refine tri_exit ?_); simp only [thenQ, blockQ, if_true, if_false, Nat.reduceEqDiff, reduceCtorEq])|(refine tri_cond (by rfl) (fun hb => ?_) (fun hb => ?_) <;> (try simp only [decide_eq_true_eq, decide_eq_false_iff_not, Bool.not_eq_true', Bool.not_eq_false', reduceCtorEq, Bool.true_eq_false, Bool.false_eq_true] at hb) <;> (try omega))|refine tri_unk (by rfl) ?_ ?_|refine And.intro (by first|omega|(unfold InR; omega)|assumption|decide|exact ⟨_, _, rfl⟩) ?_|(refine ⟨fun hc => ?_, fun hc => ?_⟩)|(intro hc; try omega))
      all_goals skip
  · replace hnl := And.intro hnl (And.intro boolsA (eq_false he))
    repeat' (first|(refine goK (by assumption) ?_; iterate 4 (try clear hK K))|(refine tri_seqk fun K hK => ?_)|((first|refine tri_region hE rfl ?_|refine tri_ret ?_|((first|refine tri_drawP hE 1 rfl rfl (by kernel_rfl) ?_|refine tri_drawP hE 2 rfl rfl (by kernel_rfl) ?_|refine tri_drawP hE 3 rfl rfl (by kernel_rfl) ?_|refine tri_drawP hE 4 rfl rfl (by kernel_rfl) ?_); simp only [List.length_cons, List.length_nil, Nat.reduceAdd, Nat.reduceSub, List.take_succ_cons, List.take_zero, List.drop_succ_cons, List.drop_zero])); simp +contextual only [hnl, ↓kN, ↓kP, ↓kG, ↓qN, ↓qP, ↓qG, push_cast, Int.reduceEq, Int.reduceLT, Int.reduceLE, Int.reduceNeg, Nat.reduceLT, Nat.reduceLeDiff, Int.reduceToNat, Int.cast_ofNat_Int, Nat.reduceBEq, Nat.reduceMul, Nat.reduceEqDiff, reduceCtorEq, Nat.reduceAdd])|refine tri_block ?_|((first|refine tri_skip ?_|refine tri_exit ?_); simp only [thenQ, blockQ, if_true, if_false, Nat.reduceEqDiff, reduceCtorEq])|(refine tri_cond (by rfl) (fun hb => ?_) (fun hb => ?_) <;> (try simp only [decide_eq_true_eq, decide_eq_false_iff_not, Bool.not_eq_true', Bool.not_eq_false', reduceCtorEq, Bool.true_eq_false, Bool.false_eq_true] at hb) <;> (try omega))|refine tri_unk (by rfl) ?_ ?_|refine And.intro (by first|omega|(unfold InR; omega)|assumption|decide|exact ⟨_, _, rfl⟩) ?_|(refine ⟨fun hc => ?_, fun hc => ?_⟩)|(intro hc; try omega))
    all_goals skip
end Go.Proofs.Ythncebdmmfhhjaa
