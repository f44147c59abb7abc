/- Loose plans: what they move and cost; the statement LooseBounds. Conditions: in each contract. -/
import Derived.Test.YtogopoiohckpdaeSi
namespace Go.Proofs.Ytogopoiohckpdae
open Go.RowKit Go.VS Go.OT
set_option linter.unusedSimpArgs false
set_option linter.unusedVariables false

/-- What the first rows move. -/
def movK (p : List (List Int)) (i : Nat) : Int := sg i fun r => lsum (p.getD r [])
theorem row_bnd {p : List (List Int)} (h : InPlan p) {i : Nat} (hi : i < p.length) : 0 ≤ lsum (p.getD i []) ∧ lsum (p.getD i []) ≤ 750 := by
  have h1 := h.row hi
  have h2 := h.cols
  rw [lsum_sumL]
  have k1 : 0 ≤ sumL (p.getD i []) := sg_nonneg _ fun j hj => (h.at hi (show j < wid p by omega)).1
  have k2 : sumL (p.getD i []) ≤ (p.getD i []).length * 150 := sg_bnd _ fun j hj => (h.at hi (show j < wid p by omega)).2
  omega
theorem movK_bnd {p : List (List Int)} (h : InPlan p) : ∀ i, i ≤ p.length → 0 ≤ movK p i ∧ movK p i ≤ 750 * i
  | 0, _ => by simp [movK, sg]
  | i + 1, hi => by
    have h1 := movK_bnd h i (by omega)
    have h2 := row_bnd h (show i < p.length by omega)
    show 0 ≤ movK p i + lsum (p.getD i []) ∧ movK p i + lsum (p.getD i []) ≤ _
    omega
@[push_cast] def movCon : Con := ⟨[.dat (.sl (.sl .int))], fun (x : List (List Int) × Unit) => InPlan x.1, fun (x : List (List Int) × Unit) => { res := [.val .int (movK x.1 x.1.length)] }⟩
theorem mov_spec : FnSpec Try.prog 33 movCon := by
  refine FnSpec.of_tri' (E := know [(26, totalCon)] [] [] []) (know_ok (all_cons ltotal_spec all_nil) all_nil all_nil) Try.func33 rfl rfl (by kernel_rfl) ?_
  intro C x hE hnl hfit hpre
  simp only [Try.ntmps33, Try.results33, maxLen, Nat.reduceSub, Nat.reducePow, Nat.reduceAdd, Int.cast_ofNat_Int, push_cast] at hnl hfit hpre ⊢
  obtain ⟨(p : List (List Int)), _⟩ := x
  dsimp only at hfit hpre ⊢
  have hpr := hpre.rows
  repeat' (first|(refine goK (by assumption) ?_; iterate 4 (try clear hK K))|(refine tri_seqk fun K hK => ?_)|((first|refine tri_region hE rfl ?_|refine tri_ret ?_|((first|refine tri_drawP hE 1 rfl rfl (by kernel_rfl) ?_|refine tri_drawP hE 2 rfl rfl (by kernel_rfl) ?_|refine tri_drawP hE 3 rfl rfl (by kernel_rfl) ?_|refine tri_drawP hE 4 rfl rfl (by kernel_rfl) ?_); simp only [List.length_cons, List.length_nil, Nat.reduceAdd, Nat.reduceSub, List.take_succ_cons, List.take_zero, List.drop_succ_cons, List.drop_zero])); simp +contextual only [hnl, ↓kN, ↓kP, ↓kG, ↓qN, ↓qP, ↓qG, push_cast, Int.reduceEq, Int.reduceLT, Int.reduceLE, Int.reduceNeg, Nat.reduceLT, Nat.reduceLeDiff, Int.reduceToNat, Int.cast_ofNat_Int, Nat.reduceBEq, Nat.reduceMul, Nat.reduceEqDiff, reduceCtorEq, Nat.reduceAdd])|refine tri_block ?_|((first|refine tri_skip ?_|refine tri_exit ?_); simp only [thenQ, blockQ, if_true, if_false, Nat.reduceEqDiff, reduceCtorEq])|(refine tri_cond (by rfl) (fun hb => ?_) (fun hb => ?_) <;> (try simp only [decide_eq_true_eq, decide_eq_false_iff_not, Bool.not_eq_true', Bool.not_eq_false', reduceCtorEq, Bool.true_eq_false, Bool.false_eq_true] at hb) <;> (try omega))|refine tri_unk (by rfl) ?_ ?_|refine And.intro (by first|omega|(unfold InR; omega)|assumption|decide|exact ⟨_, _, rfl⟩) ?_|(refine ⟨fun hc => ?_, fun hc => ?_⟩)|(intro hc; try omega))
  refine tri_loopI (fun i : Nat => AS.of [(3, .I (movK p i)), (6, .one (.val (.sl (.sl .int)) p)), (7, .I p.length), (8, .I i)] [] []) (fun i => i ≤ p.length) (fun i => p.length - i) 0 (Nat.zero_le _) ?_ ?_
  · refine weak_of ?_ ?_ ?_ <;> simp only [push_cast, Int.reduceEq, Int.reduceLT, Int.reduceLE, Int.reduceNeg, Nat.reduceLT, Nat.reduceLeDiff, Int.reduceToNat, Int.cast_ofNat_Int, Nat.reduceBEq, Nat.reduceMul, Nat.reduceEqDiff, reduceCtorEq, Nat.reduceAdd]
    all_goals rfl
  intro i hi K' hL
  rcases Nat.lt_or_ge i p.length with hip | hip
  · have hsi := row_sum hpre hip
    have h1 := movK_bnd hpre i hi
    have h2 := row_bnd hpre hip
    replace hnl := And.intro hnl (fun m => eq_true (hsi m))
    repeat' (first|(refine goK (by assumption) ?_; iterate 4 (try clear hK K))|(refine tri_seqk fun K hK => ?_)|((first|refine tri_region hE rfl ?_|refine tri_ret ?_|((first|refine tri_drawP hE 1 rfl rfl (by kernel_rfl) ?_|refine tri_drawP hE 2 rfl rfl (by kernel_rfl) ?_|refine tri_drawP hE 3 rfl rfl (by kernel_rfl) ?_|refine tri_drawP hE 4 rfl rfl (by kernel_rfl) ?_); simp only [List.length_cons, List.length_nil, Nat.reduceAdd, Nat.reduceSub, List.take_succ_cons, List.take_zero, List.drop_succ_cons, List.drop_zero])); simp +contextual only [hnl, ↓kN, ↓kP, ↓kG, ↓qN, ↓qP, ↓qG, push_cast, Int.reduceEq, Int.reduceLT, Int.reduceLE, Int.reduceNeg, Nat.reduceLT, Nat.reduceLeDiff, Int.reduceToNat, Int.cast_ofNat_Int, Nat.reduceBEq, Nat.reduceMul, Nat.reduceEqDiff, reduceCtorEq, Nat.reduceAdd])|refine tri_block ?_|((first|refine tri_skip ?_|refine tri_exit ?_); simp only [thenQ, blockQ, if_true, if_false, Nat.reduceEqDiff, reduceCtorEq])|(refine tri_cond (by rfl) (fun hb => ?_) (fun hb => ?_) <;> (try simp only [decide_eq_true_eq, decide_eq_false_iff_not, Bool.not_eq_true', Bool.not_eq_false', reduceCtorEq, Bool.true_eq_false, Bool.false_eq_true] at hb) <;> (try omega))|refine tri_unk (by rfl) ?_ ?_|refine And.intro (by first|omega|(unfold InR; omega)|assumption|decide|exact ⟨_, _, rfl⟩) ?_|(refine ⟨fun hc => ?_, fun hc => ?_⟩)|(intro hc; try omega))
    refine hL _ (i + 1) (by omega) (by omega) ?_
    refine weak_of ?_ ?_ ?_ <;> simp only [push_cast, Int.reduceEq, Int.reduceLT, Int.reduceLE, Int.reduceNeg, Nat.reduceLT, Nat.reduceLeDiff, Int.reduceToNat, Int.cast_ofNat_Int, Nat.reduceBEq, Nat.reduceMul, Nat.reduceEqDiff, reduceCtorEq, Nat.reduceAdd]
    all_goals rfl
  · obtain rfl : i = p.length := by omega
    repeat' (first|(refine goK (by assumption) ?_; iterate 4 (try clear hK K))|(refine tri_seqk fun K hK => ?_)|((first|refine tri_region hE rfl ?_|refine tri_ret ?_|((first|refine tri_drawP hE 1 rfl rfl (by kernel_rfl) ?_|refine tri_drawP hE 2 rfl rfl (by kernel_rfl) ?_|refine tri_drawP hE 3 rfl rfl (by kernel_rfl) ?_|refine tri_drawP hE 4 rfl rfl (by kernel_rfl) ?_); simp only [List.length_cons, List.length_nil, Nat.reduceAdd, Nat.reduceSub, List.take_succ_cons, List.take_zero, List.drop_succ_cons, List.drop_zero])); simp +contextual only [hnl, ↓kN, ↓kP, ↓kG, ↓qN, ↓qP, ↓qG, push_cast, Int.reduceEq, Int.reduceLT, Int.reduceLE, Int.reduceNeg, Nat.reduceLT, Nat.reduceLeDiff, Int.reduceToNat, Int.cast_ofNat_Int, Nat.reduceBEq, Nat.reduceMul, Nat.reduceEqDiff, reduceCtorEq, Nat.reduceAdd])|refine tri_block ?_|((first|refine tri_skip ?_|refine tri_exit ?_); simp only [thenQ, blockQ, if_true, if_false, Nat.reduceEqDiff, reduceCtorEq])|(refine tri_cond (by rfl) (fun hb => ?_) (fun hb => ?_) <;> (try simp only [decide_eq_true_eq, decide_eq_false_iff_not, Bool.not_eq_true', Bool.not_eq_false', reduceCtorEq, Bool.true_eq_false, Bool.false_eq_true] at hb) <;> (try omega))|refine tri_unk (by rfl) ?_ ?_|refine And.intro (by first|omega|(unfold InR; omega)|assumption|decide|exact ⟨_, _, rfl⟩) ?_|(refine ⟨fun hc => ?_, fun hc => ?_⟩)|(intro hc; try omega))
    all_goals skip

def errLC (a b : List Int) (c : List (List Int)) (w : Int) (t : List (List Int)) : Int := if errWd a b c w = 0 then errLo a b t else errWd a b c w
def costV (a b : List Int) (c : List (List Int)) (w : Int) (t : List (List Int)) : Int := spend c t + w * (lsum a + lsum b - 2 * movK t t.length)
def costL (a b : List Int) (c : List (List Int)) (w : Int) (t : List (List Int)) : Int := if errLC a b c w t = 0 then costV a b c w t else 0
theorem errLC_ok {a b : List Int} {c : List (List Int)} {w : Int} {t : List (List Int)} (h : errLC a b c w t = 0) : errWd a b c w = 0 ∧ InPlan t ∧ LooseP a b t := by
  unfold errLC at h
  split at h
  · rename_i h1
    unfold errLo at h
    split at h
    · rename_i h2
      split at h
      · rename_i h3; exact ⟨h1, errPlan_in h2.2.2, h3⟩
      · omega
    · omega
  · rename_i h1; exact absurd h h1
theorem lo_fit {a b : List Int} {c : List (List Int)} {t : List (List Int)} (hf : ForOK a b c) (hp : InPlan t) (hl : LooseP a b t) : Fit c t := by
  have hm := hf.mc
  refine ⟨a.length, b.length, ⟨by have := hm.a5; omega, by have := hm.b5; omega⟩, ⟨hm.hc.rows, hm.hc.cols, fun i j hi hj => by have := hm.hc.at' i j hi hj; omega⟩, ⟨hl.rows, fun i hi => ?_, fun i j hi hj => ?_⟩⟩
  · rw [hp.row (by rw [hl.rows]; exact hi)]; exact hl.cols
  · have h1 : 0 ≤ (t.getD i []).getD j 0 ∧ (t.getD i []).getD j 0 ≤ 150 := hp.at (by rw [hl.rows]; exact hi) (by rw [hl.cols]; exact hj)
    omega
theorem lo_row {a b : List Int} {t : List (List Int)} (hp : InPlan t) (hl : LooseP a b t) {i : Nat} (hi : i < a.length) : rowS b.length (gt t) i = lsum (t.getD i []) := by
  rw [lsum_sumL]
  unfold sumL
  rw [hp.row (by rw [hl.rows]; exact hi), hl.cols]
  rfl
theorem lo_part {a b : List Int} {t : List (List Int)} (hp : InPlan t) (hl : LooseP a b t) : IsPart a.length b.length (ga a) (ga b) (gt t) ∧ units a.length b.length (gt t) = movK t t.length := by
  refine ⟨⟨fun i j hi hj => (hp.at (show i < t.length by rw [hl.rows]; exact hi) (show j < wid t by rw [hl.cols]; exact hj)).1, fun i hi => ?_, fun j hj => ?_⟩, ?_⟩
  · rw [lo_row hp hl hi]
    exact hl.ra i (by rw [hl.rows]; exact hi)
  · have h1 := hl.cb j (by rw [hl.cols]; exact hj)
    rw [hl.rows] at h1
    exact h1
  · unfold units movK
    rw [hl.rows]
    exact sg_congr _ fun i hi => lo_row hp hl hi

@[push_cast] def lCostCon : Con := ⟨[.dat (.sl .int), .dat (.sl .int), .dat (.sl (.sl .int)), .dat .int, .dat (.sl (.sl .int))], fun _ => True, fun (x : List Int × List Int × List (List Int) × Int × List (List Int) × Unit) => { res := [.val .int (costL x.1 x.2.1 x.2.2.1 x.2.2.2.1 x.2.2.2.2.1), .val .int (errLC x.1 x.2.1 x.2.2.1 x.2.2.2.1 x.2.2.2.2.1)] }⟩
theorem lCost_spec : FnSpec Try.prog 14 lCostCon := by
  refine FnSpec.of_tri' (E := know [(17, wastedCon), (29, loCon), (36, orCon), (32, spendCon), (33, movCon), (31, fullCon)] [] [] []) (know_ok (all_cons wasted_spec (all_cons lo_spec (all_cons or_spec (all_cons scost_spec (all_cons mov_spec (all_cons full_spec all_nil)))))) all_nil all_nil) Try.func14 rfl rfl (by kernel_rfl) ?_
  intro C x hE hnl hfit hpre
  simp only [Try.ntmps14, Try.results14, maxLen, Nat.reduceSub, Nat.reducePow, Nat.reduceAdd, Int.cast_ofNat_Int, push_cast] at hnl hfit hpre ⊢
  obtain ⟨(a : List Int), (b : List Int), (c : List (List Int)), (w : Int), (t : List (List Int)), _⟩ := x
  dsimp only at hfit hpre ⊢
  have h0 : orV [errWd a b c w, errLo a b t] = errLC a b c w t := orV_two
  by_cases he : errLC a b c w t = 0
  · obtain ⟨hw, hp, hl⟩ := errLC_ok he
    obtain ⟨hf, hw0, hw99⟩ := errWd_ok hw
    have hfit2 := lo_fit hf hp hl
    obtain ⟨s1, s2, s3, s4⟩ := MC.sums hf
    have h1 := movK_bnd hp _ (Nat.le_refl _)
    have h2 := hfit2.spend t.length (Nat.le_refl _)
    have h3 := hp.rows
    have e1 : costL a b c w t = spend c t + w * (lsum a + lsum b - 2 * movK t t.length) := if_pos he
    have hfp : FullP a b w (spend c t) (movK t t.length) := ⟨s1, s2, s3, s4, ⟨hw0, hw99⟩, by show 0 ≤ spendK c t t.length ∧ spendK c t t.length ≤ _; omega, by omega⟩
    replace hnl := And.intro hnl (And.intro h0 (And.intro he (And.intro hfit2 (And.intro hp (And.intro (eq_true hfp) e1)))))
    repeat' (first|(refine goK (by assumption) ?_; iterate 4 (try clear hK K))|(refine tri_seqk fun K hK => ?_)|((first|refine tri_region hE rfl ?_|refine tri_ret ?_|((first|refine tri_drawP hE 1 rfl rfl (by kernel_rfl) ?_|refine tri_drawP hE 2 rfl rfl (by kernel_rfl) ?_|refine tri_drawP hE 3 rfl rfl (by kernel_rfl) ?_|refine tri_drawP hE 4 rfl rfl (by kernel_rfl) ?_); simp only [List.length_cons, List.length_nil, Nat.reduceAdd, Nat.reduceSub, List.take_succ_cons, List.take_zero, List.drop_succ_cons, List.drop_zero])); simp +contextual only [hnl, ↓kN, ↓kP, ↓kG, ↓qN, ↓qP, ↓qG, push_cast, Int.reduceEq, Int.reduceLT, Int.reduceLE, Int.reduceNeg, Nat.reduceLT, Nat.reduceLeDiff, Int.reduceToNat, Int.cast_ofNat_Int, Nat.reduceBEq, Nat.reduceMul, Nat.reduceEqDiff, reduceCtorEq, Nat.reduceAdd])|refine tri_block ?_|((first|refine tri_skip ?_|refine tri_exit ?_); simp only [thenQ, blockQ, if_true, if_false, Nat.reduceEqDiff, reduceCtorEq])|(refine tri_cond (by rfl) (fun hb => ?_) (fun hb => ?_) <;> (try simp only [decide_eq_true_eq, decide_eq_false_iff_not, Bool.not_eq_true', Bool.not_eq_false', reduceCtorEq, Bool.true_eq_false, Bool.false_eq_true] at hb) <;> (try omega))|refine tri_unk (by rfl) ?_ ?_|refine And.intro (by first|omega|(unfold InR; omega)|assumption|decide|exact ⟨_, _, rfl⟩) ?_|(refine ⟨fun hc => ?_, fun hc => ?_⟩)|(intro hc; try omega))
    all_goals skip
  · have e1 : costL a b c w t = 0 := if_neg he
    replace hnl := And.intro hnl (And.intro h0 (And.intro (eq_false he) e1))
    repeat' (first|(refine goK (by assumption) ?_; iterate 4 (try clear hK K))|(refine tri_seqk fun K hK => ?_)|((first|refine tri_region hE rfl ?_|refine tri_ret ?_|((first|refine tri_drawP hE 1 rfl rfl (by kernel_rfl) ?_|refine tri_drawP hE 2 rfl rfl (by kernel_rfl) ?_|refine tri_drawP hE 3 rfl rfl (by kernel_rfl) ?_|refine tri_drawP hE 4 rfl rfl (by kernel_rfl) ?_); simp only [List.length_cons, List.length_nil, Nat.reduceAdd, Nat.reduceSub, List.take_succ_cons, List.take_zero, List.drop_succ_cons, List.drop_zero])); simp +contextual only [hnl, ↓kN, ↓kP, ↓kG, ↓qN, ↓qP, ↓qG, push_cast, Int.reduceEq, Int.reduceLT, Int.reduceLE, Int.reduceNeg, Nat.reduceLT, Nat.reduceLeDiff, Int.reduceToNat, Int.cast_ofNat_Int, Nat.reduceBEq, Nat.reduceMul, Nat.reduceEqDiff, reduceCtorEq, Nat.reduceAdd])|refine tri_block ?_|((first|refine tri_skip ?_|refine tri_exit ?_); simp only [thenQ, blockQ, if_true, if_false, Nat.reduceEqDiff, reduceCtorEq])|(refine tri_cond (by rfl) (fun hb => ?_) (fun hb => ?_) <;> (try simp only [decide_eq_true_eq, decide_eq_false_iff_not, Bool.not_eq_true', Bool.not_eq_false', reduceCtorEq, Bool.true_eq_false, Bool.false_eq_true] at hb) <;> (try omega))|refine tri_unk (by rfl) ?_ ?_|refine And.intro (by first|omega|(unfold InR; omega)|assumption|decide|exact ⟨_, _, rfl⟩) ?_|(refine ⟨fun hc => ?_, fun hc => ?_⟩)|(intro hc; try omega))
    all_goals skip

end Go.Proofs.Ytogopoiohckpdae
