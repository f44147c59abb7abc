/- The statement LooseBounds: for every job and offer. No condition. -/
import Derived.Test.YthncebdmmfhhjaaSj
namespace Go.Proofs.Ythncebdmmfhhjaa
open Go.RowKit Go.VS Go.OT
set_option linter.unusedSimpArgs false
set_option linter.unusedVariables false

theorem loose_cost {a b : List Int} {c : List (List Int)} {w : Int} {t : List (List Int)} (h : errLC a b c w t = 0) : looseV a b c w ≤ costL a b c w t := by
  obtain ⟨hw, hp, hl⟩ := errLC_ok h
  have hf := (errWd_ok hw).1
  have hm := hf.mc
  obtain ⟨h1, h2⟩ := lo_part hp hl
  have h3 := loose_le hm w h1
  have hsz : Sz a.length b.length t := ⟨hl.rows, fun i hi => by rw [hp.row (by rw [hl.rows]; exact hi)]; exact hl.cols⟩
  have e : costL a b c w t = spend c t + w * (lsum a + lsum b - 2 * movK t t.length) := if_pos h
  rw [e, spend_cst hsz, lsum_sumL, lsum_sumL, ← h2]
  exact h3
theorem loose_worth {a b : List Int} {c : List (List Int)} {w : Int} {p : Prices} (h : errWL a b c w p = 0) : worthL a b c w p ≤ looseV a b c w := by
  have e : worthL a b c w p = worthV a b p := if_pos h
  have hw : errWd a b c w = 0 := by
    apply Classical.byContradiction
    intro h1
    rw [errWL, if_neg h1] at h
    exact h1 h
  have hp : errPrL c w p = 0 := by rw [errWL, if_pos hw] at h; exact h
  have hf := (errWd_ok hw).1
  have hm := hf.mc
  have hr := hf.rows
  have hc := hf.cols
  unfold errPrL at hp
  split at hp
  · split at hp
    · rename_i h3
      split at hp
      · rename_i hlow
        obtain ⟨k1, k2, k3⟩ := errPr_ok h3
        obtain ⟨r1, _⟩ := k2.row
        obtain ⟨c1, _⟩ := k2.col
        obtain ⟨g1, g2⟩ := (loose_obj hm w (few_spec hm w).1)
        have hk := g2.1 rfl
        obtain ⟨q1, q2, q3⟩ := part_at hm (few_spec hm w).1
        have hat := loose_at hm w hk.1 hk.2
        have hd := loose_dual (w := w) (u := ga p.1) (v := ga p.2) (c := gt c) q1 (fun i j hi hj => k3 i (by omega) j (by omega))
          (fun i hi => hlow _ (List.mem_append_left _ (getD_mem 0 (by omega)))) (fun j hj => hlow _ (List.mem_append_right _ (getD_mem 0 (by omega))))
        rw [q2] at hd
        rw [e, worth_eq]
        have hs1 : sg a.length (ga a) = sumL a := rfl
        have hs2 : sg b.length (ga b) = sumL b := rfl
        rw [hs1, hs2, hat] at hd
        exact hd
      · omega
    · rename_i h3; exact absurd hp h3
  · omega

@[push_cast] def trueBounds : Con := ⟨[.dat (.prod (.sl .int) (.prod (.sl .int) (.sl (.sl .int)))), .dat (.prod .int (.prod (.sl (.sl .int)) (.prod (.sl .int) (.sl .int))))], fun _ => True, fun _ => { res := [.val .bool true] }⟩

theorem lbounds_fn : FnSpec Try.prog 10 trueBounds := by
  refine FnSpec.of_tri' (E := know [(15, longJCon), (37, longOCon), (16, known8Con), (26, lLeastCon), (38, lCostCon), (17, lWorthCon)] [] [] []) (know_ok (all_cons longJ_spec (all_cons longO_spec (all_cons known8_spec (all_cons lLeast_spec (all_cons lCost_spec (all_cons lWorth_spec all_nil)))))) all_nil all_nil) Try.func10 rfl rfl (by kernel_rfl) ?_
  intro C x hE hnl hfit hpre
  simp only [Try.ntmps10, Try.results10, maxLen, Nat.reduceSub, Nat.reducePow, Nat.reduceAdd, Int.cast_ofNat_Int, push_cast] at hnl hfit hpre ⊢
  obtain ⟨⟨(a : List Int), (b : List Int), (c : List (List Int))⟩, ⟨(w : Int), (t : List (List Int)), ⟨(u : List Int), (v : List Int)⟩⟩, _⟩ := x
  dsimp only at hfit hpre ⊢
  have k1 : errLC a b c w t = 0 → errWd a b c w = 0 ∧ looseE a b c w ≤ costL a b c w t := fun h => by
    have h1 := (errLC_ok h).1
    exact ⟨h1, by rw [looseE, if_pos h1]; exact loose_cost h⟩
  have k2 : errWL a b c w (u, v) = 0 → errWd a b c w = 0 ∧ worthL a b c w (u, v) ≤ looseE a b c w := fun h => by
    have h1 : errWd a b c w = 0 := by
      apply Classical.byContradiction
      intro h1
      rw [errWL, if_neg h1] at h
      exact h1 h
    exact ⟨h1, by rw [looseE, if_pos h1]; exact loose_worth h⟩
  by_cases c1 : errLC a b c w t = 0
  · obtain ⟨g1, g2⟩ := k1 c1
    by_cases c2 : errWL a b c w (u, v) = 0
    · obtain ⟨g3, g4⟩ := k2 c2
      replace hnl := And.intro hnl (And.intro c1 (And.intro c2 (And.intro g1 (And.intro (eq_true g2) (eq_true g4)))))
      repeat' (first|(refine goK (by assumption) ?_; iterate 4 (try clear hK K))|(refine tri_seqk fun K hK => ?_)|((first|refine tri_region hE rfl ?_|refine tri_ret ?_|((first|refine tri_drawP hE 1 rfl rfl (by kernel_rfl) ?_|refine tri_drawP hE 2 rfl rfl (by kernel_rfl) ?_|refine tri_drawP hE 3 rfl rfl (by kernel_rfl) ?_|refine tri_drawP hE 4 rfl rfl (by kernel_rfl) ?_); simp only [List.length_cons, List.length_nil, Nat.reduceAdd, Nat.reduceSub, List.take_succ_cons, List.take_zero, List.drop_succ_cons, List.drop_zero])); simp +contextual only [hnl, ↓kN, ↓kP, ↓kG, ↓qN, ↓qP, ↓qG, push_cast, Int.reduceEq, Int.reduceLT, Int.reduceLE, Int.reduceNeg, Nat.reduceLT, Nat.reduceLeDiff, Int.reduceToNat, Int.cast_ofNat_Int, Nat.reduceBEq, Nat.reduceMul, Nat.reduceEqDiff, reduceCtorEq, Nat.reduceAdd])|refine tri_block ?_|((first|refine tri_skip ?_|refine tri_exit ?_); simp only [thenQ, blockQ, if_true, if_false, Nat.reduceEqDiff, reduceCtorEq])|(refine tri_cond (by rfl) (fun hb => ?_) (fun hb => ?_) <;> (try simp only [decide_eq_true_eq, decide_eq_false_iff_not, Bool.not_eq_true', Bool.not_eq_false', reduceCtorEq, Bool.true_eq_false, Bool.false_eq_true] at hb) <;> (try omega))|refine tri_unk (by rfl) ?_ ?_|refine And.intro (by first|omega|(unfold InR; omega)|assumption|decide|exact ⟨_, _, rfl⟩) ?_|(refine ⟨fun hc => ?_, fun hc => ?_⟩)|(intro hc; try omega))
      all_goals skip
    · replace hnl := And.intro hnl (And.intro c1 (And.intro (eq_false c2) (And.intro g1 (eq_true g2))))
      repeat' (first|(refine goK (by assumption) ?_; iterate 4 (try clear hK K))|(refine tri_seqk fun K hK => ?_)|((first|refine tri_region hE rfl ?_|refine tri_ret ?_|((first|refine tri_drawP hE 1 rfl rfl (by kernel_rfl) ?_|refine tri_drawP hE 2 rfl rfl (by kernel_rfl) ?_|refine tri_drawP hE 3 rfl rfl (by kernel_rfl) ?_|refine tri_drawP hE 4 rfl rfl (by kernel_rfl) ?_); simp only [List.length_cons, List.length_nil, Nat.reduceAdd, Nat.reduceSub, List.take_succ_cons, List.take_zero, List.drop_succ_cons, List.drop_zero])); simp +contextual only [hnl, ↓kN, ↓kP, ↓kG, ↓qN, ↓qP, ↓qG, push_cast, Int.reduceEq, Int.reduceLT, Int.reduceLE, Int.reduceNeg, Nat.reduceLT, Nat.reduceLeDiff, Int.reduceToNat, Int.cast_ofNat_Int, Nat.reduceBEq, Nat.reduceMul, Nat.reduceEqDiff, reduceCtorEq, Nat.reduceAdd])|refine tri_block ?_|((first|refine tri_skip ?_|refine tri_exit ?_); simp only [thenQ, blockQ, if_true, if_false, Nat.reduceEqDiff, reduceCtorEq])|(refine tri_cond (by rfl) (fun hb => ?_) (fun hb => ?_) <;> (try simp only [decide_eq_true_eq, decide_eq_false_iff_not, Bool.not_eq_true', Bool.not_eq_false', reduceCtorEq, Bool.true_eq_false, Bool.false_eq_true] at hb) <;> (try omega))|refine tri_unk (by rfl) ?_ ?_|refine And.intro (by first|omega|(unfold InR; omega)|assumption|decide|exact ⟨_, _, rfl⟩) ?_|(refine ⟨fun hc => ?_, fun hc => ?_⟩)|(intro hc; try omega))
      all_goals skip
  · by_cases c2 : errWL a b c w (u, v) = 0
    · obtain ⟨g3, g4⟩ := k2 c2
      replace hnl := And.intro hnl (And.intro (eq_false c1) (And.intro c2 (And.intro g3 (eq_true g4))))
      repeat' (first|(refine goK (by assumption) ?_; iterate 4 (try clear hK K))|(refine tri_seqk fun K hK => ?_)|((first|refine tri_region hE rfl ?_|refine tri_ret ?_|((first|refine tri_drawP hE 1 rfl rfl (by kernel_rfl) ?_|refine tri_drawP hE 2 rfl rfl (by kernel_rfl) ?_|refine tri_drawP hE 3 rfl rfl (by kernel_rfl) ?_|refine tri_drawP hE 4 rfl rfl (by kernel_rfl) ?_); simp only [List.length_cons, List.length_nil, Nat.reduceAdd, Nat.reduceSub, List.take_succ_cons, List.take_zero, List.drop_succ_cons, List.drop_zero])); simp +contextual only [hnl, ↓kN, ↓kP, ↓kG, ↓qN, ↓qP, ↓qG, push_cast, Int.reduceEq, Int.reduceLT, Int.reduceLE, Int.reduceNeg, Nat.reduceLT, Nat.reduceLeDiff, Int.reduceToNat, Int.cast_ofNat_Int, Nat.reduceBEq, Nat.reduceMul, Nat.reduceEqDiff, reduceCtorEq, Nat.reduceAdd])|refine tri_block ?_|((first|refine tri_skip ?_|refine tri_exit ?_); simp only [thenQ, blockQ, if_true, if_false, Nat.reduceEqDiff, reduceCtorEq])|(refine tri_cond (by rfl) (fun hb => ?_) (fun hb => ?_) <;> (try simp only [decide_eq_true_eq, decide_eq_false_iff_not, Bool.not_eq_true', Bool.not_eq_false', reduceCtorEq, Bool.true_eq_false, Bool.false_eq_true] at hb) <;> (try omega))|refine tri_unk (by rfl) ?_ ?_|refine And.intro (by first|omega|(unfold InR; omega)|assumption|decide|exact ⟨_, _, rfl⟩) ?_|(refine ⟨fun hc => ?_, fun hc => ?_⟩)|(intro hc; try omega))
      all_goals skip
    · replace hnl := And.intro hnl (And.intro (eq_false c1) (eq_false c2))
      repeat' (first|(refine goK (by assumption) ?_; iterate 4 (try clear hK K))|(refine tri_seqk fun K hK => ?_)|((first|refine tri_region hE rfl ?_|refine tri_ret ?_|((first|refine tri_drawP hE 1 rfl rfl (by kernel_rfl) ?_|refine tri_drawP hE 2 rfl rfl (by kernel_rfl) ?_|refine tri_drawP hE 3 rfl rfl (by kernel_rfl) ?_|refine tri_drawP hE 4 rfl rfl (by kernel_rfl) ?_); simp only [List.length_cons, List.length_nil, Nat.reduceAdd, Nat.reduceSub, List.take_succ_cons, List.take_zero, List.drop_succ_cons, List.drop_zero])); simp +contextual only [hnl, ↓kN, ↓kP, ↓kG, ↓qN, ↓qP, ↓qG, push_cast, Int.reduceEq, Int.reduceLT, Int.reduceLE, Int.reduceNeg, Nat.reduceLT, Nat.reduceLeDiff, Int.reduceToNat, Int.cast_ofNat_Int, Nat.reduceBEq, Nat.reduceMul, Nat.reduceEqDiff, reduceCtorEq, Nat.reduceAdd])|refine tri_block ?_|((first|refine tri_skip ?_|refine tri_exit ?_); simp only [thenQ, blockQ, if_true, if_false, Nat.reduceEqDiff, reduceCtorEq])|(refine tri_cond (by rfl) (fun hb => ?_) (fun hb => ?_) <;> (try simp only [decide_eq_true_eq, decide_eq_false_iff_not, Bool.not_eq_true', Bool.not_eq_false', reduceCtorEq, Bool.true_eq_false, Bool.false_eq_true] at hb) <;> (try omega))|refine tri_unk (by rfl) ?_ ?_|refine And.intro (by first|omega|(unfold InR; omega)|assumption|decide|exact ⟨_, _, rfl⟩) ?_|(refine ⟨fun hc => ?_, fun hc => ?_⟩)|(intro hc; try omega))
      all_goals skip
end Go.Proofs.Ythncebdmmfhhjaa
