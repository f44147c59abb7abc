/- The document's least. Conditions: in each contract. -/
import Derived.Test.YtaldpinkkgdklaaHf
import Derived.Test.YtaldpinkkgdklaaGv
import Derived.Test.YtaldpinkkgdklaaHd
namespace Go.Proofs.Ytaldpinkkgdklaa
open Go.RowKit Go.VS Go.OT Go.LC
set_option linter.unusedSimpArgs false
set_option linter.unusedVariables false

theorem fit_solve {a b : List Int} {c : List (List Int)} (h : MQ a b c) : Fit c (solveV a b c) := ⟨_, _, ⟨by have := h.a5; omega, by have := h.b5; omega⟩, h.hc, (solve_ok h).1.tab⟩
@[push_cast] def qbestCon : Con := ⟨[.dat (.sl .int), .dat (.sl .int), .dat (.sl (.sl .int))], fun (x : SolArgs) => MQ x.1 x.2.1 x.2.2.1, fun (x : SolArgs) => { res := [.val .int (spend x.2.2.1 (solveV x.1 x.2.1 x.2.2.1))] }⟩

theorem qbest_spec : FnSpec Try.prog 71 qbestCon := by
  refine FnSpec.of_tri' (E := know [(103, solCon), (60, spendCon)] [] [] []) (know_ok (all_cons sol_spec (all_cons spent_spec all_nil)) all_nil all_nil) Try.func71 rfl rfl (by kernel_rfl) ?_
  intro C x hE hnl hfit hpre
  simp only [Try.ntmps71, Try.results71, maxLen, Nat.reduceSub, Nat.reducePow, Nat.reduceAdd, Int.cast_ofNat_Int, push_cast] at hnl hfit hpre ⊢
  obtain ⟨(a : List Int), (b : List Int), (c : List (List Int)), _⟩ := x
  dsimp only at hfit hpre ⊢
  have h1 := fit_solve hpre
  repeat' (first|(refine goK (by assumption) ?_; iterate 4 (try clear hK K))|(refine tri_seqk fun K hK => ?_)|((first|refine tri_region hE rfl ?_|refine tri_ret ?_); simp +contextual only [hnl, ↓kN, ↓kP, ↓kG, ↓qN, ↓qP, ↓qG, push_cast, Int.reduceEq, Int.reduceLT, Int.reduceLE, Int.reduceNeg, Nat.reduceLT, Nat.reduceLeDiff, Int.reduceToNat, Int.cast_ofNat_Int, Nat.reduceBEq, Nat.reduceMul, Nat.reduceEqDiff, reduceCtorEq, Nat.reduceAdd])|refine tri_block ?_|((first|refine tri_skip ?_|refine tri_exit ?_); simp only [thenQ, blockQ, if_true, if_false, Nat.reduceEqDiff, reduceCtorEq])|(refine tri_cond (by rfl) (fun hb => ?_) (fun hb => ?_) <;> (try simp only [decide_eq_true_eq, decide_eq_false_iff_not, Bool.not_eq_true', Bool.not_eq_false', reduceCtorEq, Bool.true_eq_false, Bool.false_eq_true] at hb) <;> (try omega))|refine tri_unk (by rfl) ?_ ?_|refine And.intro (by first|omega|(unfold InR; omega)|assumption|decide|exact ⟨_, _, rfl⟩) ?_|(refine ⟨fun hc => ?_, fun hc => ?_⟩)|(intro hc; try omega))
  all_goals skip

/-! ### Both leasts are equal -/
theorem sg_lsum : ∀ (l : List Int), sumL l = lsum l := by
  intro l
  have h : ∀ k, k ≤ l.length → sg k (ga l) = lsum (l.take k) := by
    intro k
    induction k with
    | zero => intro _; rfl
    | succ k ih =>
      intro hk
      rw [lsum_take l k (by omega), ← ih (by omega)]
      rfl
  have := h l.length (Nat.le_refl _)
  rwa [List.take_length] at this
theorem dotK_sg (r s : List Int) : ∀ k, dotK r s k = sg k fun j => r.getD j 0 * s.getD j 0
  | 0 => rfl
  | k + 1 => by simp only [dotK, sg, dotK_sg r s k]
theorem spend_cst {R C : Nat} {c t : List (List Int)} (h : Sz R C t) : spend c t = cst R C (gt c) (gt t) := by
  have h1 : ∀ k, k ≤ R → spendK c t k = sg k fun i => sg C fun j => gt c i j * gt t i j := by
    intro k
    induction k with
    | zero => intro _; rfl
    | succ k ih =>
      intro hk
      simp only [spendK, sg]
      rw [ih (by omega), dotK_sg, h.cols k (by omega)]
      rfl
  unfold spend
  rw [h.rows]
  exact h1 R (Nat.le_refl _)
theorem worth_eq {a b : List Int} {p : Prices} : worthV a b p = worth a.length b.length (ga a) (ga b) (ga p.1) (ga p.2) := by
  unfold worthV worth
  rw [dotK_sg, dotK_sg]
  rfl
theorem ForOK.mq {a b : List Int} {c : List (List Int)} (h : ForOK a b c) (hs : lsum a = lsum b) : MQ a b c := by
  have h1 := h.mc
  exact ⟨h1.a5, h1.b5, h1.ha, h1.hb, ⟨h1.hc.rows, h1.hc.cols, fun i j hi hj => by have := h1.hc.at' i j hi hj; omega⟩, by rw [sg_lsum, sg_lsum, hs]⟩
section
variable {a b : List Int} {c : List (List Int)}
theorem fits_best (h : errFits a b c = 0) : Best a b c (cheapV a b c) := by
  obtain ⟨h1, h2⟩ := errFits_ok h
  exact h1.mc.best (by rw [sg_lsum, sg_lsum, h2])
theorem fits_mq (h : errFits a b c = 0) : MQ a b c := by
  obtain ⟨h1, h2⟩ := errFits_ok h
  exact h1.mq h2
theorem cheap_cst (h : errFits a b c = 0) : leastV a b c = cst a.length b.length (gt c) (gt (cheapV a b c)) := by
  rw [leastV_0 h]
  exact spend_cst (fits_best h).shp.tab.sz
/-- No plan costs less than the least. -/
theorem least_le (h : errFits a b c = 0) {q : List (List Int)} (hq : IsPlan a.length b.length (ga a) (ga b) (gt q)) : leastV a b c ≤ cst a.length b.length (gt c) (gt q) := by
  rw [cheap_cst h]
  obtain ⟨r, s, h1, h2, _⟩ := (fits_best h).good
  exact (fits_best h).plan.least h1 h2 hq
/-- A plan with tight prices costs the least. -/
theorem least_of (h : errFits a b c = 0) {q : List (List Int)} (hq : IsPlan a.length b.length (ga a) (ga b) (gt q)) {u v : Nat → Int} (h1 : Holds a.length b.length (gt c) u v) (h2 : Tight a.length b.length (gt c) (gt q) u v) : leastV a b c = cst a.length b.length (gt c) (gt q) := by
  have k1 := least_le h hq
  have k2 := hq.least h1 h2 (fits_best h).plan
  rw [← cheap_cst h] at k2
  omega
theorem least_eq (h : errFits a b c = 0) : spend c (solveV a b c) = leastV a b c := by
  obtain ⟨h1, h2, h3⟩ := solve_ok (fits_mq h)
  rw [spend_cst h1.tab.sz, least_of h h1.plan h2 h3]
end

theorem qleast_spec : FnSpec Try.prog 31 leastCon := by
  refine FnSpec.of_tri' (E := know [(24, fitsCon), (71, qbestCon)] [] [] []) (know_ok (all_cons qfits_spec (all_cons qbest_spec all_nil)) all_nil all_nil) Try.func31 rfl rfl (by kernel_rfl) ?_
  intro C x hE hnl hfit hpre
  simp only [Try.ntmps31, Try.results31, maxLen, Nat.reduceSub, Nat.reducePow, Nat.reduceAdd, Int.cast_ofNat_Int, push_cast] at hnl hfit hpre ⊢
  obtain ⟨(a : List Int), (b : List Int), (c : List (List Int)), _⟩ := x
  dsimp only at hfit hpre ⊢
  by_cases he : errFits a b c = 0
  · have h1 := fits_mq he
    have h2 := least_eq he
    replace hnl := And.intro hnl (And.intro he h2)
    repeat' (first|(refine goK (by assumption) ?_; iterate 4 (try clear hK K))|(refine tri_seqk fun K hK => ?_)|((first|refine tri_region hE rfl ?_|refine tri_ret ?_); simp +contextual only [hnl, ↓kN, ↓kP, ↓kG, ↓qN, ↓qP, ↓qG, push_cast, Int.reduceEq, Int.reduceLT, Int.reduceLE, Int.reduceNeg, Nat.reduceLT, Nat.reduceLeDiff, Int.reduceToNat, Int.cast_ofNat_Int, Nat.reduceBEq, Nat.reduceMul, Nat.reduceEqDiff, reduceCtorEq, Nat.reduceAdd])|refine tri_block ?_|((first|refine tri_skip ?_|refine tri_exit ?_); simp only [thenQ, blockQ, if_true, if_false, Nat.reduceEqDiff, reduceCtorEq])|(refine tri_cond (by rfl) (fun hb => ?_) (fun hb => ?_) <;> (try simp only [decide_eq_true_eq, decide_eq_false_iff_not, Bool.not_eq_true', Bool.not_eq_false', reduceCtorEq, Bool.true_eq_false, Bool.false_eq_true] at hb) <;> (try omega))|refine tri_unk (by rfl) ?_ ?_|refine And.intro (by first|omega|(unfold InR; omega)|assumption|decide|exact ⟨_, _, rfl⟩) ?_|(refine ⟨fun hc => ?_, fun hc => ?_⟩)|(intro hc; try omega))
  · have h3 := leastV_1 he
    replace hnl := And.intro hnl h3
    repeat' (first|(refine goK (by assumption) ?_; iterate 4 (try clear hK K))|(refine tri_seqk fun K hK => ?_)|((first|refine tri_region hE rfl ?_|refine tri_ret ?_); simp +contextual only [hnl, ↓kN, ↓kP, ↓kG, ↓qN, ↓qP, ↓qG, push_cast, Int.reduceEq, Int.reduceLT, Int.reduceLE, Int.reduceNeg, Nat.reduceLT, Nat.reduceLeDiff, Int.reduceToNat, Int.cast_ofNat_Int, Nat.reduceBEq, Nat.reduceMul, Nat.reduceEqDiff, reduceCtorEq, Nat.reduceAdd])|refine tri_block ?_|((first|refine tri_skip ?_|refine tri_exit ?_); simp only [thenQ, blockQ, if_true, if_false, Nat.reduceEqDiff, reduceCtorEq])|(refine tri_cond (by rfl) (fun hb => ?_) (fun hb => ?_) <;> (try simp only [decide_eq_true_eq, decide_eq_false_iff_not, Bool.not_eq_true', Bool.not_eq_false', reduceCtorEq, Bool.true_eq_false, Bool.false_eq_true] at hb) <;> (try omega))|refine tri_unk (by rfl) ?_ ?_|refine And.intro (by first|omega|(unfold InR; omega)|assumption|decide|exact ⟨_, _, rfl⟩) ?_|(refine ⟨fun hc => ?_, fun hc => ?_⟩)|(intro hc; try omega))
end Go.Proofs.Ytaldpinkkgdklaa
