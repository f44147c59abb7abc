/- What prices are worth. Conditions: in each contract. -/
import Derived.Test.YtikjejmekfpofaaHb
namespace Go.Proofs.Ytikjejmekfpofaa
open Go.RowKit Go.VS Go.OT
set_option linter.unusedSimpArgs false
set_option linter.unusedVariables false

/-- What prices are worth for masses. -/
def worthV (a b : List Int) (p : Prices) : Int := dotK a p.1 a.length + dotK b p.2 b.length

structure WPre (a b : List Int) (p : Prices) : Prop where
  a6 : a.length ≤ 6
  b6 : b.length ≤ 6
  la : p.1.length = a.length
  lb : p.2.length = b.length
  ha : ∀ i, i < a.length → 0 ≤ a.getD i 0 ∧ a.getD i 0 ≤ 200
  hb : ∀ i, i < b.length → 0 ≤ b.getD i 0 ∧ b.getD i 0 ≤ 200
  hp : ∀ i, i < a.length → -1000 ≤ p.1.getD i 0 ∧ p.1.getD i 0 ≤ 1000
  hq : ∀ i, i < b.length → -1000 ≤ p.2.getD i 0 ∧ p.2.getD i 0 ≤ 1000

theorem term_bnd {x y : Int} (h1 : 0 ≤ x ∧ x ≤ 200) (h2 : -1000 ≤ y ∧ y ≤ 1000) : -200000 ≤ x * y ∧ x * y ≤ 200000 := by
  have k1 : x * y ≤ x * 1000 := Int.mul_le_mul_of_nonneg_left h2.2 h1.1
  have k2 : x * (-1000) ≤ x * y := Int.mul_le_mul_of_nonneg_left h2.1 h1.1
  omega
theorem dot_bnd {a p : List Int} (h1 : ∀ i, i < a.length → 0 ≤ a.getD i 0 ∧ a.getD i 0 ≤ 200) (h2 : ∀ i, i < a.length → -1000 ≤ p.getD i 0 ∧ p.getD i 0 ≤ 1000) : ∀ k, k ≤ a.length → -200000 * (k : Int) ≤ dotK a p k ∧ dotK a p k ≤ 200000 * k
  | 0, _ => by simp [dotK]
  | k + 1, hk => by
    have k1 := dot_bnd h1 h2 k (by omega)
    have k2 := term_bnd (h1 k (by omega)) (h2 k (by omega))
    simp only [dotK]
    omega

@[push_cast] def worthCon : Con := ⟨[.dat (.sl .int), .dat (.sl .int), .dat (.prod (.sl .int) (.sl .int))], fun (x : List Int × List Int × Prices × Unit) => WPre x.1 x.2.1 x.2.2.1, fun (x : List Int × List Int × Prices × Unit) => { res := [.val .int (worthV x.1 x.2.1 x.2.2.1)] }⟩

def errWorth (a b : List Int) (c : List (List Int)) (p : Prices) : Int := if errFits a b c = 0 then errPr c p else errFits a b c
def worthW (a b : List Int) (c : List (List Int)) (p : Prices) : Int := if errWorth a b c p = 0 then worthV a b p else 0
section
variable {a b : List Int} {c : List (List Int)} {p : Prices}
theorem errWorth_f (h : ¬ errFits a b c = 0) : errWorth a b c p = errFits a b c ∧ worthW a b c p = 0 := by
  have h1 : errWorth a b c p = errFits a b c := if_neg h
  exact ⟨h1, if_neg (by rw [h1]; exact h)⟩
theorem errWorth_p (h : errFits a b c = 0) (h2 : ¬ errPr c p = 0) : errWorth a b c p = errPr c p ∧ worthW a b c p = 0 := by
  have h1 : errWorth a b c p = errPr c p := if_pos h
  exact ⟨h1, if_neg (by rw [h1]; exact h2)⟩
theorem wpre_of (h : errFits a b c = 0) (h2 : errPr c p = 0) : WPre a b p := by
  obtain ⟨h3, _⟩ := errFits_ok h
  obtain ⟨h4, h5, _⟩ := errPr_ok h2
  have k1 := okMass_len h3.ha
  have k2 := okMass_len h3.hb
  have k3 := h5.row
  have k4 := h5.col
  have k5 := h3.rows
  have k6 := h3.cols
  exact ⟨by omega, by omega, by omega, by omega, fun i hi => by have := okMass_mem h3.ha _ (getD_mem 0 hi); omega, fun i hi => by have := okMass_mem h3.hb _ (getD_mem 0 hi); omega, fun i hi => k3.2 i (by omega), fun i hi => k4.2 i (by omega)⟩
theorem errWorth_0 (h : errFits a b c = 0) (h2 : errPr c p = 0) : errWorth a b c p = 0 ∧ worthW a b c p = worthV a b p := by
  have h1 : errWorth a b c p = 0 := by rw [errWorth, if_pos h, h2]
  exact ⟨h1, if_pos h1⟩
theorem orV_two {x y : Int} : orV [x, y] = if x = 0 then y else x := by
  simp only [orV_cons, orV_nil]
  split
  · split
    · omega
    · rfl
  · rfl
end

@[push_cast] def worthWCon : Con := ⟨[.dat (.sl .int), .dat (.sl .int), .dat (.sl (.sl .int)), .dat (.prod (.sl .int) (.sl .int))], fun _ => True, fun (x : List Int × List Int × List (List Int) × Prices × Unit) => { res := [.val .int (worthW x.1 x.2.1 x.2.2.1 x.2.2.2.1), .val .int (errWorth x.1 x.2.1 x.2.2.1 x.2.2.2.1)] }⟩

end Go.Proofs.Ytikjejmekfpofaa
