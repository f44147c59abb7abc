/- The least, in the terms of sums. Conditions: in each lemma. -/
import Derived.Test.YtikjejmekfpofaaGv
import Derived.Test.YtikjejmekfpofaaHd
namespace Go.Proofs.Ytikjejmekfpofaa
open Go.RowKit Go.VS Go.OT
set_option linter.unusedSimpArgs false
set_option linter.unusedVariables false

/-! ### Sums -/
theorem sg_lsum : ∀ (l : List Int), sumL l = lsum l := by
  intro l
  have h : ∀ k, k ≤ l.length → sg k (ga l) = lsum (l.take k) := by
    intro k
    induction k with
    | zero => intro _; rfl
    | succ k ih =>
      intro hk
      rw [lsum_take l k (by omega), ← ih (by omega)]
      rfl
  have := h l.length (Nat.le_refl _)
  rwa [List.take_length] at this
theorem dotK_sg (r s : List Int) : ∀ k, dotK r s k = sg k fun j => r.getD j 0 * s.getD j 0
  | 0 => rfl
  | k + 1 => by simp only [dotK, sg, dotK_sg r s k]
theorem spend_cst {R C : Nat} {c t : List (List Int)} (h : Sz R C t) : spend c t = cst R C (gt c) (gt t) := by
  have h1 : ∀ k, k ≤ R → spendK c t k = sg k fun i => sg C fun j => gt c i j * gt t i j := by
    intro k
    induction k with
    | zero => intro _; rfl
    | succ k ih =>
      intro hk
      simp only [spendK, sg]
      rw [ih (by omega), dotK_sg, h.cols k (by omega)]
      rfl
  unfold spend
  rw [h.rows]
  exact h1 R (Nat.le_refl _)
theorem worth_eq {a b : List Int} {p : Prices} : worthV a b p = worth a.length b.length (ga a) (ga b) (ga p.1) (ga p.2) := by
  unfold worthV worth
  rw [dotK_sg, dotK_sg]
  rfl
section
variable {a b : List Int} {c : List (List Int)}
theorem fits_best (h : errFits a b c = 0) : Best a b c (cheapV a b c) := by
  obtain ⟨h1, h2⟩ := errFits_ok h
  exact h1.mc.best (by rw [sg_lsum, sg_lsum, h2])
theorem cheap_cst (h : errFits a b c = 0) : leastV a b c = cst a.length b.length (gt c) (gt (cheapV a b c)) := by
  rw [leastV_0 h]
  exact spend_cst (fits_best h).shp.tab.sz
/-- No plan costs less than the least. -/
theorem least_le (h : errFits a b c = 0) {q : List (List Int)} (hq : IsPlan a.length b.length (ga a) (ga b) (gt q)) : leastV a b c ≤ cst a.length b.length (gt c) (gt q) := by
  rw [cheap_cst h]
  obtain ⟨r, s, h1, h2, _⟩ := (fits_best h).good
  exact (fits_best h).plan.least h1 h2 hq
theorem least_le' (h : errFits a b c = 0) {q : Nat → Nat → Int} (hq : IsPlan a.length b.length (ga a) (ga b) q) : leastV a b c ≤ cst a.length b.length (gt c) q := by
  rw [cheap_cst h]
  obtain ⟨r, s, h1, h2, _⟩ := (fits_best h).good
  exact (fits_best h).plan.least h1 h2 hq
/-- A plan with tight prices costs the least. -/
theorem least_of (h : errFits a b c = 0) {q : List (List Int)} (hq : IsPlan a.length b.length (ga a) (ga b) (gt q)) {u v : Nat → Int} (h1 : Holds a.length b.length (gt c) u v) (h2 : Tight a.length b.length (gt c) (gt q) u v) : leastV a b c = cst a.length b.length (gt c) (gt q) := by
  have k1 := least_le h hq
  have k2 := hq.least h1 h2 (fits_best h).plan
  rw [← cheap_cst h] at k2
  omega
end

end Go.Proofs.Ytikjejmekfpofaa
