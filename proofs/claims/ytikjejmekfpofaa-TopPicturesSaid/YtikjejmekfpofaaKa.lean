/- The program's plan and prices prove each other; what plans and prices that do so are. Conditions: in each lemma. -/
import Derived.Test.YtikjejmekfpofaaKt
import Derived.Test.YtikjejmekfpofaaHi
import Derived.Test.YtikjejmekfpofaaHj
namespace Go.Proofs.Ytikjejmekfpofaa
open Go.RowKit Go.VS Go.OT
set_option linter.unusedSimpArgs false
set_option linter.unusedVariables false

section
variable {a b : List Int} {c t : List (List Int)} {p : Prices}
/-- A table with the right sums is a plan between them. -/
theorem check_plan (h : errCheck a b t = 0) : IsPlan a.length b.length (ga a) (ga b) (gt t) ∧ t.length = a.length ∧ wid t = b.length ∧ InPlan t ∧ okMass a = true ∧ okMass b = true := by
  obtain ⟨h1, h2, h3, h4, h5, h6⟩ := errCheck_ok h
  have k1 : t.length = a.length := by rw [← h5, rowsP_len]
  have k2 : wid t = b.length := by rw [← h6, colsP_len]
  have hs := h3.sz
  rw [k1, k2] at hs
  refine ⟨⟨fun i j hi hj => ?_, fun i hi => ?_, fun j hj => ?_⟩, k1, k2, h3, h1, h2⟩
  · exact (h3.at (i := i) (j := j) (by omega) (by omega)).1
  · rw [← rowsP_at hs hi, h5]; rfl
  · rw [← colsP_at hs k2 hj, h6]; rfl
theorem check_of (h1 : okMass a = true) (h2 : okMass b = true) (h3 : InPlan t) (h4 : lsum a = lsum b) (k1 : t.length = a.length) (k2 : wid t = b.length) (hp : IsPlan a.length b.length (ga a) (ga b) (gt t)) : errCheck a b t = 0 := by
  have hs := h3.sz
  rw [k1, k2] at hs
  refine errCheck_0 h1 h2 h3 h4 ?_ ?_
  · refine eq_of_getD 0 (by rw [rowsP_len, k1]) fun i hi => ?_
    rw [rowsP_len, k1] at hi
    rw [rowsP_at hs hi, hp.row i hi]; rfl
  · refine eq_of_getD 0 (by rw [colsP_len, k2]) fun j hj => ?_
    rw [colsP_len, k2] at hj
    rw [colsP_at hs k2 hj, hp.col j hj]; rfl
theorem hold_of (h : HoldP c p) : Holds c.length (wid c) (gt c) (ga p.1) (ga p.2) := fun i j hi hj => h i hi j hj
theorem hold_to (h : Holds c.length (wid c) (gt c) (ga p.1) (ga p.2)) : HoldP c p := fun i hi j hj => h i j hi hj
theorem tight_of (h : TightP c t p) : Tight t.length (wid t) (gt c) (gt t) (ga p.1) (ga p.2) := fun i j hi hj h0 => h i hi j hj h0
theorem tight_to (h : Tight t.length (wid t) (gt c) (gt t) (ga p.1) (ga p.2)) : TightP c t p := fun i hi j hj h0 => h i j hi hj h0

theorem plan_small {R C : Nat} {q : List (List Int)} (hs : Sz R C q) (hR : 1 ≤ R ∧ R ≤ 5) (hC : 1 ≤ C ∧ C ≤ 5) {a b : Nat → Int} (hp : IsPlan R C a b (gt q)) (ha : ∀ i, i < R → a i ≤ 150) : InPlan q ∧ q.length = R ∧ wid q = C := by
  have hw : wid q = C := hs.cols 0 (by omega)
  have hr := hs.rows
  refine ⟨inPlan_of (by omega) (by omega) fun i hi => ⟨by rw [hw]; exact hs.cols i (by omega), fun j hj => ?_⟩, hr, hw⟩
  have h1 := hp.nn i j (by omega) (by omega)
  have h2 := sg_at C (f := gt q i) (fun k hk => hp.nn i k (by omega) hk) j (by omega)
  have h3 := hp.row i (by omega)
  have h4 := ha i (by omega)
  unfold rowS at h3
  have h5 : gt q i j = (q.getD i []).getD j 0 := rfl
  rw [← h5]
  have h6 : (sg C fun j => gt q i j) = sg C (gt q i) := rfl
  omega
theorem okMass_at (h : okMass a = true) {i : Nat} (hi : i < a.length) : 0 ≤ ga a i ∧ ga a i ≤ 30 := okMass_mem h _ (getD_mem 0 hi)

theorem cheap_plan (h : errFits a b c = 0) : errCheck a b (cheapV a b c) = 0 := by
  obtain ⟨d1, d2, d3, d4, d5, d6⟩ := fits_dims h
  have hb := fits_best h
  have k1 := okMass_len d4
  have k2 := okMass_len d5
  obtain ⟨k3, k4, k5⟩ := plan_small hb.shp.tab.sz k1 k2 hb.plan fun i hi => by have := okMass_at d4 hi; omega
  exact check_of d4 d5 k3 d6 k4 k5 hb.plan
theorem check_spend (h : errFits a b c = 0) (h2 : errCheck a b t = 0) : errSpend c t = 0 ∧ spendV c t = cst a.length b.length (gt c) (gt t) := by
  obtain ⟨d1, d2, d3, _, _, _⟩ := fits_dims h
  obtain ⟨k1, k2, k3, k4, _, _⟩ := check_plan h2
  have e1 : errSpend c t = 0 := (errSpend_0 (errCost_0 d3) (errPlan_0 k4) (by omega) (by show wid t = wid c; omega)).1
  refine ⟨e1, ?_⟩
  rw [spendV_ok e1]
  have hs := k4.sz
  rw [k2, k3] at hs
  exact spend_cst hs
theorem prices_ok (h : errFits a b c = 0) : Holds a.length b.length (gt c) (ga (pricesV a b c).1) (ga (pricesV a b c).2) ∧ Tight a.length b.length (gt c) (gt (cheapV a b c)) (ga (pricesV a b c).1) (ga (pricesV a b c).2) ∧
    (pricesV a b c).1.length = a.length ∧ (pricesV a b c).2.length = b.length ∧ (∀ i, i < a.length → 0 ≤ ga (pricesV a b c).1 i ∧ ga (pricesV a b c).1 i ≤ 99) ∧ ∀ j, j < b.length → -99 ≤ ga (pricesV a b c).2 j ∧ ga (pricesV a b c).2 j ≤ 0 := by
  obtain ⟨d1, d2, d3, d4, d5, d6⟩ := fits_dims h
  have k1 := okMass_len d4
  have k2 := okMass_len d5
  have hc := (errFits_ok h).1.mc.hc
  obtain ⟨r, s, g1, g2, g3, g4⟩ := (fits_best h).good
  have hl := prK_st (p := cheapV a b c) hc (by omega) (by omega) (a.length + b.length)
  have e : prV c (cheapV a b c) = prK c (cheapV a b c) a.length b.length (a.length + b.length) := by
    unfold prV
    rw [d1, d2]
  rw [pricesV_0 h, e]
  obtain ⟨q1, q2, q3, q4⟩ := prK_ok (p := cheapV a b c) hc (by omega) (by omega) g1 g2 g3 g4
  exact ⟨q1, q2, hl.l1, hl.l2, q3, q4⟩
theorem prices_pr (h : errFits a b c = 0) : errPr c (pricesV a b c) = 0 := by
  obtain ⟨d1, d2, d3, d4, d5, d6⟩ := fits_dims h
  obtain ⟨q1, q2, q3, q4, q5, q6⟩ := prices_ok h
  have inl : ∀ (l : List Int) (n : Nat), l.length = n → (∀ i, i < n → -1000 ≤ ga l i ∧ ga l i ≤ 1000) → InL n (-1000) 1000 l := fun l n hl hx => by
    refine ⟨by omega, fun x hx' => ?_⟩
    obtain ⟨i, hi, rfl⟩ := List.getElem_of_mem hx'
    have := hx i (by omega)
    unfold ga at this
    rwa [List.getD_eq_getElem?_getD, List.getElem?_eq_getElem hi] at this
  refine errPr_0 d3 ⟨?_, ?_⟩ (hold_to (by rw [d1, d2]; exact q1))
  · rw [d1]; exact inl _ _ q3 fun i hi => by have := q5 i hi; omega
  · rw [d2]; exact inl _ _ q4 fun i hi => by have := q6 i hi; omega
/-- The program's plan and prices prove each other. -/
theorem best_own (h : errFits a b c = 0) : errBest a b c (cheapV a b c) (pricesV a b c) = 0 := by
  obtain ⟨q1, q2, _⟩ := prices_ok h
  have h2 := cheap_plan h
  obtain ⟨_, k2, k3, _⟩ := check_plan h2
  exact errBest_0 h h2 (prices_pr h) (tight_to (by rw [k2, k3]; exact q2))

theorem errBest_ok (h : errBest a b c t p = 0) : errFits a b c = 0 ∧ errCheck a b t = 0 ∧ errPr c p = 0 ∧ TightP c t p := by
  by_cases h1 : errFits a b c = 0
  · by_cases h2 : errCheck a b t = 0
    · by_cases h3 : errPr c p = 0
      · by_cases h4 : TightP c t p
        · exact ⟨h1, h2, h3, h4⟩
        · rw [errBest_8 h1 h2 h3 h4] at h; omega
      · rw [errBest_p h1 h2 h3] at h; exact absurd h h3
    · rw [errBest_7 h1 h2] at h; omega
  · rw [errBest_f h1] at h; exact absurd h h1
/-- What holds of prices, in the terms of sums. -/
theorem pr_holds (h : errFits a b c = 0) (h3 : errPr c p = 0) : Holds a.length b.length (gt c) (ga p.1) (ga p.2) := by
  obtain ⟨d1, d2, _⟩ := fits_dims h
  have := hold_of (errPr_ok h3).2.2
  rwa [d1, d2] at this
theorem best_least (h : errBest a b c t p = 0) : leastV a b c = cst a.length b.length (gt c) (gt t) ∧ worthV a b p = leastV a b c := by
  obtain ⟨h1, h2, h3, h4⟩ := errBest_ok h
  obtain ⟨k1, k2, k3, _⟩ := check_plan h2
  have ht := tight_of h4
  rw [k2, k3] at ht
  have e := least_of h1 k1 (pr_holds h1 h3) ht
  exact ⟨e, by rw [e, worth_eq, k1.worth_eq ht]⟩
/-- What prove each other have the least. -/
theorem best_values (h : errBest a b c t p = 0) : errFits a b c = 0 ∧ errSpend c t = 0 ∧ spendV c t = leastV a b c ∧ errWorth a b c p = 0 ∧ worthW a b c p = leastV a b c := by
  obtain ⟨h1, h2, h3, h4⟩ := errBest_ok h
  obtain ⟨e1, e2⟩ := best_least h
  obtain ⟨k1, k2⟩ := check_spend h1 h2
  obtain ⟨w1, w2⟩ := errWorth_0 h1 h3
  exact ⟨h1, k1, by rw [k2, e1], w1, by rw [w2, e2]⟩
/-- Prices that prove one plan prove all. -/
theorem best_other (h : errBest a b c t p = 0) {t' : List (List Int)} {p' : Prices} (h' : errBest a b c t' p' = 0) : errBest a b c t' p = 0 := by
  obtain ⟨h1, h2, h3, h4⟩ := errBest_ok h
  obtain ⟨_, i2, i3, i4⟩ := errBest_ok h'
  obtain ⟨e1, e2⟩ := best_least h
  obtain ⟨f1, f2⟩ := best_least h'
  obtain ⟨k1, k2, k3, _⟩ := check_plan i2
  refine errBest_0 h1 i2 h3 (tight_to ?_)
  rw [k2, k3]
  exact k1.tight_of (pr_holds h1 h3) (by rw [← f1, ← e2, worth_eq])
/-- Prices that hold are worth no more than the least. -/
theorem worth_least (h : errFits a b c = 0) (h3 : errPr c p = 0) : worthV a b p ≤ leastV a b c := by
  obtain ⟨e1, _⟩ := best_least (best_own h)
  rw [worth_eq, e1]
  exact (fits_best h).plan.worth_le (pr_holds h h3)
end
end Go.Proofs.Ytikjejmekfpofaa
