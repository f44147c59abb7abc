/- Loose plans: prices, rising wastes, thresholds, rows and columns exchanged, a unit less. No program; no condition. -/
import Derived.Test.YtogopoiohckpdaeP8
namespace Go.OT
set_option linter.unusedSimpArgs false
set_option linter.unusedVariables false

section
variable {R C : Nat} {a b : Nat → Int} {c q : Nat → Nat → Int} {u v : Nat → Int} {w : Int}
/-- Prices of at most the waste that hold are worth at most what a loose plan costs. -/
theorem loose_dual (hq : IsPart R C a b q) (h : Holds R C c u v) (hu : ∀ i, i < R → u i ≤ w) (hv : ∀ j, j < C → v j ≤ w) : worth R C a b u v ≤ cst R C c q + w * (sg R a + sg C b - 2 * units R C q) := by
  have h1 : cst R C (fun i j => u i + v j) q ≤ cst R C c q := sg_le R fun i hi => sg_le C fun j hj => Int.mul_le_mul_of_nonneg_right (h i j hi hj) (hq.nn i j hi hj)
  rw [cst_prices] at h1
  unfold worth at h1 ⊢
  have h2 : sg R (fun i => a i * u i) ≤ sg R (fun i => rowS C q i * u i) + w * (sg R a - units R C q) := by
    have e : w * (sg R a - units R C q) = sg R (fun i => w * (a i - rowS C q i)) := by
      rw [sg_mul, sg_sub]; rfl
    rw [e, ← sg_add]
    refine sg_le R fun i hi => ?_
    have k1 := hq.row i hi
    have k2 := Int.mul_le_mul_of_nonneg_left (hu i hi) (show 0 ≤ a i - rowS C q i by omega)
    rw [Int.sub_mul] at k2
    rw [Int.mul_comm w]
    omega
  have h3 : sg C (fun j => b j * v j) ≤ sg C (fun j => colS R q j * v j) + w * (sg C b - units R C q) := by
    have e : w * (sg C b - units R C q) = sg C (fun j => w * (b j - colS R q j)) := by
      rw [sg_mul, sg_sub, ← units_col]
    rw [e, ← sg_add]
    refine sg_le C fun j hj => ?_
    have k1 := hq.col j hj
    have k2 := Int.mul_le_mul_of_nonneg_left (hv j hj) (show 0 ≤ b j - colS R q j by omega)
    rw [Int.sub_mul] at k2
    rw [Int.mul_comm w]
    omega
  rw [show sg R a + sg C b - 2 * units R C q = (sg R a - units R C q) + (sg C b - units R C q) by omega, Int.mul_add]
  omega

/-- Prices of masses with dumps, made prices of the masses. -/
theorem dump_prices {U V : Nat → Int} (h : Holds (R + 1) (C + 1) (costD R C c w 0) U V) (hm : U R + V C ≤ 0) :
    Holds R C c (fun i => U i + V C) (fun j => V j + U R) ∧ (∀ i, i < R → U i + V C ≤ w) ∧ (∀ j, j < C → V j + U R ≤ w) ∧
    worth R C a b (fun i => U i + V C) (fun j => V j + U R) = worth (R + 1) (C + 1) (withD R a (sg C b)) (withD C b (sg R a)) U V := by
  have hij : ∀ i j, i < R → j < C → U i + V j ≤ c i j := fun i j hi hj => by
    have := h i j (by omega) (by omega)
    unfold costD at this
    rwa [if_pos hi, if_pos hj] at this
  refine ⟨fun i j hi hj => ?_, fun i hi => ?_, fun j hj => ?_, ?_⟩
  · have := hij i j hi hj
    dsimp only
    omega
  · have := h i C (by omega) (by omega)
    unfold costD at this
    rwa [if_pos hi, if_neg (Nat.lt_irrefl _)] at this
  · have := h R j (by omega) (by omega)
    unfold costD at this
    rw [if_neg (Nat.lt_irrefl _), if_pos hj] at this
    omega
  · unfold worth
    have e1 : sg (R + 1) (fun i => withD R a (sg C b) i * U i) = sg R (fun i => a i * U i) + sg C b * U R := by
      show sg R (fun i => withD R a (sg C b) i * U i) + withD R a (sg C b) R * U R = _
      congr 1
      · exact sg_congr R fun i hi => by rw [show withD R a (sg C b) i = a i from if_pos hi]
      · rw [show withD R a (sg C b) R = sg C b from if_neg (Nat.lt_irrefl _)]
    have e2 : sg (C + 1) (fun j => withD C b (sg R a) j * V j) = sg C (fun j => b j * V j) + sg R a * V C := by
      show sg C (fun j => withD C b (sg R a) j * V j) + withD C b (sg R a) C * V C = _
      congr 1
      · exact sg_congr C fun j hj => by rw [show withD C b (sg R a) j = b j from if_pos hj]
      · rw [show withD C b (sg R a) C = sg R a from if_neg (Nat.lt_irrefl _)]
    have e3 : sg R (fun i => a i * (U i + V C)) = sg R (fun i => a i * U i) + sg R a * V C := by
      rw [Int.mul_comm (sg R a), ← sg_mul, ← sg_add]
      exact sg_congr R fun i _ => by rw [Int.mul_add, Int.mul_comm (V C)]
    have e4 : sg C (fun j => b j * (V j + U R)) = sg C (fun j => b j * V j) + sg C b * U R := by
      rw [Int.mul_comm (sg C b), ← sg_mul, ← sg_add]
      exact sg_congr C fun j _ => by rw [Int.mul_add, Int.mul_comm (U R)]
    rw [e1, e2, e3, e4]
    omega

/-! ### Exchanged -/
end

section
variable {a b : List Int} {c : List (List Int)}
/-! ### Wastes -/
/-! ### A unit less -/
end
end Go.OT
