/- Loose plans: what they move and cost, by the program. Conditions: in each contract. -/
import Derived.Test.YtogopoiohckpdadSg
import Derived.Test.YtogopoiohckpdadHp
namespace Go.Proofs.Ytogopoiohckpdad
open Go.RowKit Go.VS Go.OT
set_option linter.unusedSimpArgs false
set_option linter.unusedVariables false

/-- The sum of column k in the first i rows. -/
def cK (p : List (List Int)) (i k : Nat) : Int := sg i fun r => gt p r k
section
variable {p : List (List Int)}
end

theorem row_sum {p : List (List Int)} (h : InPlan p) {i : Nat} (hi : i < p.length) (m : Nat) : InR (lsum ((p.getD i []).take m)) := by
  have h1 := h.row hi
  have h2 := h.cols
  have key : ∀ m, m ≤ (p.getD i []).length → 0 ≤ lsum ((p.getD i []).take m) ∧ lsum ((p.getD i []).take m) ≤ 150 * m := by
    intro m
    induction m with
    | zero => intro _; simp [lsum]
    | succ m ih =>
      intro hm
      have := ih (by omega)
      have k3 : 0 ≤ (p.getD i []).getD m 0 ∧ (p.getD i []).getD m 0 ≤ 150 := h.at hi (by omega)
      rw [lsum_take _ m (by omega)]
      omega
  rcases Nat.lt_or_ge (p.getD i []).length m with h3 | h3
  · rw [List.take_of_length_le (by omega)]
    have := key _ (Nat.le_refl _)
    rw [List.take_length] at this
    unfold InR
    omega
  · have := key m h3
    unfold InR
    omega

structure LooseP (a b : List Int) (p : List (List Int)) : Prop where
  rows : p.length = a.length
  cols : wid p = b.length
  ra : ∀ i, i < p.length → lsum (p.getD i []) ≤ a.getD i 0
  cb : ∀ k, k < wid p → cK p p.length k ≤ b.getD k 0
theorem looseP_iff {a b : List Int} {p : List (List Int)} : LooseP a b p ↔ (p.length = a.length ∧ wid p = b.length ∧ (∀ i, i < p.length → lsum (p.getD i []) ≤ a.getD i 0) ∧ ∀ k, k < wid p → cK p p.length k ≤ b.getD k 0) :=
  ⟨fun ⟨a, b, c, d⟩ => ⟨a, b, c, d⟩, fun ⟨a, b, c, d⟩ => ⟨a, b, c, d⟩⟩
instance (a b : List Int) (p : List (List Int)) : Decidable (LooseP a b p) := decidable_of_iff _ looseP_iff.symm
def errLo (a b : List Int) (p : List (List Int)) : Int := if errMass a = 0 ∧ errMass b = 0 ∧ errPlan p = 0 then if LooseP a b p then 0 else 7 else 1
@[push_cast] def loCon : Con := ⟨[.dat (.sl .int), .dat (.sl .int), .dat (.sl (.sl .int))], fun _ => True, fun (x : List Int × List Int × List (List Int) × Unit) => { res := [.val .int (errLo x.1 x.2.1 x.2.2.1)] }⟩
theorem errMass_01 (a : List Int) : errMass a = 0 ∨ errMass a = 1 := by
  unfold errMass
  split <;> simp
end Go.Proofs.Ytogopoiohckpdad
