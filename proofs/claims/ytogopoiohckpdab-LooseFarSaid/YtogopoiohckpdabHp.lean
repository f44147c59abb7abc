/- The least, in the terms of sums. Conditions: in each lemma. -/
import Derived.Test.YtogopoiohckpdabGv
import Derived.Test.YtogopoiohckpdabHd
namespace Go.Proofs.Ytogopoiohckpdab
open Go.RowKit Go.VS Go.OT
set_option linter.unusedSimpArgs false
set_option linter.unusedVariables false

/-! ### Sums -/
theorem dotK_sg (r s : List Int) : ∀ k, dotK r s k = sg k fun j => r.getD j 0 * s.getD j 0
  | 0 => rfl
  | k + 1 => by simp only [dotK, sg, dotK_sg r s k]
theorem spend_cst {R C : Nat} {c t : List (List Int)} (h : Sz R C t) : spend c t = cst R C (gt c) (gt t) := by
  have h1 : ∀ k, k ≤ R → spendK c t k = sg k fun i => sg C fun j => gt c i j * gt t i j := by
    intro k
    induction k with
    | zero => intro _; rfl
    | succ k ih =>
      intro hk
      simp only [spendK, sg]
      rw [ih (by omega), dotK_sg, h.cols k (by omega)]
      rfl
  unfold spend
  rw [h.rows]
  exact h1 R (Nat.le_refl _)
theorem worth_eq {a b : List Int} {p : Prices} : worthV a b p = worth a.length b.length (ga a) (ga b) (ga p.1) (ga p.2) := by
  unfold worthV worth
  rw [dotK_sg, dotK_sg]
  rfl
section
variable {a b : List Int} {c : List (List Int)}
end

end Go.Proofs.Ytogopoiohckpdab
