/- Loose plans: prices, rising wastes, thresholds, rows and columns exchanged, a unit less. No program; no condition. -/
import Derived.Test.YtogopoiohckpdacP8
namespace Go.OT
set_option linter.unusedSimpArgs false
set_option linter.unusedVariables false

section
variable {R C : Nat} {a b : Nat → Int} {c q : Nat → Nat → Int} {u v : Nat → Int} {w : Int}
/-- Prices of at most the waste that hold are worth at most what a loose plan costs. -/
theorem loose_dual (hq : IsPart R C a b q) (h : Holds R C c u v) (hu : ∀ i, i < R → u i ≤ w) (hv : ∀ j, j < C → v j ≤ w) : worth R C a b u v ≤ cst R C c q + w * (sg R a + sg C b - 2 * units R C q) := by
  have h1 : cst R C (fun i j => u i + v j) q ≤ cst R C c q := sg_le R fun i hi => sg_le C fun j hj => Int.mul_le_mul_of_nonneg_right (h i j hi hj) (hq.nn i j hi hj)
  rw [cst_prices] at h1
  unfold worth at h1 ⊢
  have h2 : sg R (fun i => a i * u i) ≤ sg R (fun i => rowS C q i * u i) + w * (sg R a - units R C q) := by
    have e : w * (sg R a - units R C q) = sg R (fun i => w * (a i - rowS C q i)) := by
      rw [sg_mul, sg_sub]; rfl
    rw [e, ← sg_add]
    refine sg_le R fun i hi => ?_
    have k1 := hq.row i hi
    have k2 := Int.mul_le_mul_of_nonneg_left (hu i hi) (show 0 ≤ a i - rowS C q i by omega)
    rw [Int.sub_mul] at k2
    rw [Int.mul_comm w]
    omega
  have h3 : sg C (fun j => b j * v j) ≤ sg C (fun j => colS R q j * v j) + w * (sg C b - units R C q) := by
    have e : w * (sg C b - units R C q) = sg C (fun j => w * (b j - colS R q j)) := by
      rw [sg_mul, sg_sub, ← units_col]
    rw [e, ← sg_add]
    refine sg_le C fun j hj => ?_
    have k1 := hq.col j hj
    have k2 := Int.mul_le_mul_of_nonneg_left (hv j hj) (show 0 ≤ b j - colS R q j by omega)
    rw [Int.sub_mul] at k2
    rw [Int.mul_comm w]
    omega
  rw [show sg R a + sg C b - 2 * units R C q = (sg R a - units R C q) + (sg C b - units R C q) by omega, Int.mul_add]
  omega

/-! ### Exchanged -/
end

section
variable {a b : List Int} {c : List (List Int)}
/-! ### Wastes -/
/-- The smallest waste at which all that can be is moved. -/
def thrV (a b : List Int) (c : List (List Int)) : Int := (lastN a b c (maxU a b) + 1) / 2
theorem thr_bnd (hm : MC a b c) : 0 ≤ thrV a b c ∧ thrV a b c ≤ 50 := by
  unfold thrV
  cases hM : maxU a b with
  | zero => exact (by decide : (0 : Int) ≤ ((0 : Int) + 1) / 2 ∧ ((0 : Int) + 1) / 2 ≤ 50)
  | succ M =>
    have h := nu_bnd hm (k := M) (by omega)
    show 0 ≤ (nuV a b c M + 1) / 2 ∧ (nuV a b c M + 1) / 2 ≤ 50
    omega

/-! ### A unit less -/
end
end Go.OT
