/- The statement LooseRises: for every job and wastes. No condition. -/
import Derived.Test.YthncebdmmfhhjaaSg
import Derived.Test.YthncebdmmfhhjaaHp
namespace Go.Proofs.Ythncebdmmfhhjaa
open Go.RowKit Go.VS Go.OT
set_option linter.unusedSimpArgs false
set_option linter.unusedVariables false

theorem loose_least {a b : List Int} {c : List (List Int)} {w : Int} (h : errFits a b c = 0) : looseV a b c w ≤ leastV a b c := by
  obtain ⟨hf, hs⟩ := errFits_ok h
  have hp := (fits_best h).plan
  have hq : IsPart a.length b.length (ga a) (ga b) (gt (cheapV a b c)) := ⟨hp.nn, fun i hi => Int.le_of_eq (hp.row i hi), fun j hj => Int.le_of_eq (hp.col j hj)⟩
  have h1 := loose_le hf.mc w hq
  have h2 : units a.length b.length (gt (cheapV a b c)) = sumL a := sg_congr _ fun i hi => hp.row i hi
  rw [lsum_sumL, lsum_sumL] at hs
  rw [h2, ← cheap_cst h, hs] at h1
  have h3 : w * (sumL b + sumL b - 2 * sumL b) = 0 := by
    have : sumL b + sumL b - 2 * sumL b = 0 := by omega
    rw [this, Int.mul_zero]
  omega

@[push_cast] def trueRises : Con := ⟨[.dat (.prod (.sl .int) (.prod (.sl .int) (.sl (.sl .int)))), .dat .int, .dat .int], fun _ => True, fun _ => { res := [.val .bool true] }⟩

theorem rises_fn : FnSpec Try.prog 9 trueRises := by
  refine FnSpec.of_tri' (E := know [(15, longJCon), (16, known8Con), (26, lLeastCon), (27, totalCon), (36, leastCon)] [] [] []) (know_ok (all_cons longJ_spec (all_cons known8_spec (all_cons lLeast_spec (all_cons qtotal_spec (all_cons pleast_spec all_nil))))) all_nil all_nil) Try.func9 rfl rfl (by kernel_rfl) ?_
  intro C x hE hnl hfit hpre
  simp only [Try.ntmps9, Try.results9, maxLen, Nat.reduceSub, Nat.reducePow, Nat.reduceAdd, Int.cast_ofNat_Int, push_cast] at hnl hfit hpre ⊢
  obtain ⟨⟨(a : List Int), (b : List Int), (c : List (List Int))⟩, (w : Int), (m : Int), _⟩ := x
  dsimp only at hfit hpre ⊢
  by_cases hw : errWd a b c w = 0
  · obtain ⟨hf, hw0, hw99⟩ := errWd_ok hw
    have hm := hf.mc
    have e1 : looseE a b c w = looseV a b c w := if_pos hw
    obtain ⟨s1, s2, s3, s4⟩ := MC.sums hf
    have k1 := loose_zero hm w
    rw [← lsum_sumL, ← lsum_sumL] at k1
    have k2 := loose_nn hm hw0
    have k3 := mul_bnd ⟨hw0, hw99⟩ (x := lsum a + lsum b) (by omega)
    have k4 : errFits a b c = 0 → looseV a b c w ≤ leastV a b c := loose_least
    replace hnl := And.intro hnl (And.intro hw (And.intro e1 (And.intro (fun k => eq_true (s1 k)) (fun k => eq_true (s2 k)))))
    by_cases hm2 : errWd a b c m = 0
    · have e2 : looseE a b c m = looseV a b c m := if_pos hm2
      have k5 : w ≤ m → looseV a b c w ≤ looseV a b c m := fun h => loose_rise hm h
      have k6 : m ≤ w → looseV a b c m ≤ looseV a b c w := fun h => loose_rise hm h
      replace hnl := And.intro hnl (And.intro hm2 e2)
      repeat' (first|(refine goK (by assumption) ?_; iterate 4 (try clear hK K))|(refine tri_seqk fun K hK => ?_)|((first|refine tri_region hE rfl ?_|refine tri_ret ?_|((first|refine tri_drawP hE 1 rfl rfl (by kernel_rfl) ?_|refine tri_drawP hE 2 rfl rfl (by kernel_rfl) ?_|refine tri_drawP hE 3 rfl rfl (by kernel_rfl) ?_|refine tri_drawP hE 4 rfl rfl (by kernel_rfl) ?_); simp only [List.length_cons, List.length_nil, Nat.reduceAdd, Nat.reduceSub, List.take_succ_cons, List.take_zero, List.drop_succ_cons, List.drop_zero])); simp +contextual only [hnl, ↓kN, ↓kP, ↓kG, ↓qN, ↓qP, ↓qG, push_cast, Int.reduceEq, Int.reduceLT, Int.reduceLE, Int.reduceNeg, Nat.reduceLT, Nat.reduceLeDiff, Int.reduceToNat, Int.cast_ofNat_Int, Nat.reduceBEq, Nat.reduceMul, Nat.reduceEqDiff, reduceCtorEq, Nat.reduceAdd])|refine tri_block ?_|((first|refine tri_skip ?_|refine tri_exit ?_); simp only [thenQ, blockQ, if_true, if_false, Nat.reduceEqDiff, reduceCtorEq])|(refine tri_cond (by rfl) (fun hb => ?_) (fun hb => ?_) <;> (try simp only [decide_eq_true_eq, decide_eq_false_iff_not, Bool.not_eq_true', Bool.not_eq_false', reduceCtorEq, Bool.true_eq_false, Bool.false_eq_true] at hb) <;> (try omega))|refine tri_unk (by rfl) ?_ ?_|refine And.intro (by first|omega|(unfold InR; omega)|assumption|decide|exact ⟨_, _, rfl⟩) ?_|(refine ⟨fun hc => ?_, fun hc => ?_⟩)|(intro hc; try omega))
      all_goals first | exact absurd (k4 (by assumption)) (by assumption) | skip
    · replace hnl := And.intro hnl (eq_false hm2)
      repeat' (first|(refine goK (by assumption) ?_; iterate 4 (try clear hK K))|(refine tri_seqk fun K hK => ?_)|((first|refine tri_region hE rfl ?_|refine tri_ret ?_|((first|refine tri_drawP hE 1 rfl rfl (by kernel_rfl) ?_|refine tri_drawP hE 2 rfl rfl (by kernel_rfl) ?_|refine tri_drawP hE 3 rfl rfl (by kernel_rfl) ?_|refine tri_drawP hE 4 rfl rfl (by kernel_rfl) ?_); simp only [List.length_cons, List.length_nil, Nat.reduceAdd, Nat.reduceSub, List.take_succ_cons, List.take_zero, List.drop_succ_cons, List.drop_zero])); simp +contextual only [hnl, ↓kN, ↓kP, ↓kG, ↓qN, ↓qP, ↓qG, push_cast, Int.reduceEq, Int.reduceLT, Int.reduceLE, Int.reduceNeg, Nat.reduceLT, Nat.reduceLeDiff, Int.reduceToNat, Int.cast_ofNat_Int, Nat.reduceBEq, Nat.reduceMul, Nat.reduceEqDiff, reduceCtorEq, Nat.reduceAdd])|refine tri_block ?_|((first|refine tri_skip ?_|refine tri_exit ?_); simp only [thenQ, blockQ, if_true, if_false, Nat.reduceEqDiff, reduceCtorEq])|(refine tri_cond (by rfl) (fun hb => ?_) (fun hb => ?_) <;> (try simp only [decide_eq_true_eq, decide_eq_false_iff_not, Bool.not_eq_true', Bool.not_eq_false', reduceCtorEq, Bool.true_eq_false, Bool.false_eq_true] at hb) <;> (try omega))|refine tri_unk (by rfl) ?_ ?_|refine And.intro (by first|omega|(unfold InR; omega)|assumption|decide|exact ⟨_, _, rfl⟩) ?_|(refine ⟨fun hc => ?_, fun hc => ?_⟩)|(intro hc; try omega))
      all_goals first | exact absurd (k4 (by assumption)) (by assumption) | skip
  · replace hnl := And.intro hnl (eq_false hw)
    repeat' (first|(refine goK (by assumption) ?_; iterate 4 (try clear hK K))|(refine tri_seqk fun K hK => ?_)|((first|refine tri_region hE rfl ?_|refine tri_ret ?_|((first|refine tri_drawP hE 1 rfl rfl (by kernel_rfl) ?_|refine tri_drawP hE 2 rfl rfl (by kernel_rfl) ?_|refine tri_drawP hE 3 rfl rfl (by kernel_rfl) ?_|refine tri_drawP hE 4 rfl rfl (by kernel_rfl) ?_); simp only [List.length_cons, List.length_nil, Nat.reduceAdd, Nat.reduceSub, List.take_succ_cons, List.take_zero, List.drop_succ_cons, List.drop_zero])); simp +contextual only [hnl, ↓kN, ↓kP, ↓kG, ↓qN, ↓qP, ↓qG, push_cast, Int.reduceEq, Int.reduceLT, Int.reduceLE, Int.reduceNeg, Nat.reduceLT, Nat.reduceLeDiff, Int.reduceToNat, Int.cast_ofNat_Int, Nat.reduceBEq, Nat.reduceMul, Nat.reduceEqDiff, reduceCtorEq, Nat.reduceAdd])|refine tri_block ?_|((first|refine tri_skip ?_|refine tri_exit ?_); simp only [thenQ, blockQ, if_true, if_false, Nat.reduceEqDiff, reduceCtorEq])|(refine tri_cond (by rfl) (fun hb => ?_) (fun hb => ?_) <;> (try simp only [decide_eq_true_eq, decide_eq_false_iff_not, Bool.not_eq_true', Bool.not_eq_false', reduceCtorEq, Bool.true_eq_false, Bool.false_eq_true] at hb) <;> (try omega))|refine tri_unk (by rfl) ?_ ?_|refine And.intro (by first|omega|(unfold InR; omega)|assumption|decide|exact ⟨_, _, rfl⟩) ?_|(refine ⟨fun hc => ?_, fun hc => ?_⟩)|(intro hc; try omega))
    all_goals skip
end Go.Proofs.Ythncebdmmfhhjaa
