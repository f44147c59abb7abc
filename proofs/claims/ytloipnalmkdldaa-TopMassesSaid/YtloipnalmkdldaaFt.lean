/- Whether rows and columns of fractions add up to two lists: so it is for fractions of one denominator. Conditions: in each contract. -/
import Derived.Test.YtloipnalmkdldaaFs
namespace Go.Proofs.Ytloipnalmkdldaa
open Go.RowKit Go.VS
set_option linter.unusedSimpArgs false
set_option linter.unusedVariables false

/-- f 0 + .. + f (n - 1). -/
def nsum (f : Nat → Nat) : Nat → Nat
  | 0 => 0
  | n + 1 => nsum f n + f n

theorem nsum_le (f : Nat → Nat) {m : Nat} : ∀ {n : Nat}, m ≤ n → nsum f m ≤ nsum f n
  | 0, h => by
    obtain rfl : m = 0 := by omega
    exact Nat.le_refl _
  | n + 1, h => by
    by_cases he : m = n + 1
    · rw [he]; exact Nat.le_refl _
    · have := nsum_le f (show m ≤ n by omega)
      simp only [nsum]
      omega

theorem addPreG_rat {N1 N2 L : Nat} (h : 0 < L) (hL : L ≤ 9223372036854775807) (hN : N1 + N2 ≤ 9223372036854775807) : AddPreG (rat N1 L) (rat N2 L) := by
  obtain ⟨g1, n1, d1, hg1, hd1, rfl, hL1, e1⟩ := rat_parts N1 L h
  obtain ⟨g2, n2, d2, hg2, hd2, rfl, hL2, e2⟩ := rat_parts N2 L h
  have l1 : d1 ≤ L := by rw [hL1]; exact Nat.le_mul_of_pos_left _ hg1
  have l2 : d2 ≤ L := by rw [hL2]; exact Nat.le_mul_of_pos_left _ hg2
  have hlcm : Nat.lcm d1 d2 ∣ L := Nat.lcm_dvd ⟨g1, by rw [hL1, Nat.mul_comm]⟩ ⟨g2, by rw [hL2, Nat.mul_comm]⟩
  have hle : Nat.lcm d1 d2 ≤ L := Nat.le_of_dvd h hlcm
  have k1 := Nat.mul_div_cancel' (Nat.gcd_dvd_left d1 d2)
  have k2 := Nat.mul_div_cancel' (Nat.gcd_dvd_right d1 d2)
  have hg : 0 < Nat.gcd d1 d2 := Nat.gcd_pos_of_pos_left _ hd1
  have hm := Nat.gcd_mul_lcm d1 d2
  obtain ⟨g, hgd⟩ : ∃ g, g = Nat.gcd d1 d2 := ⟨_, rfl⟩
  obtain ⟨m, hmd⟩ : ∃ m, m = Nat.lcm d1 d2 := ⟨_, rfl⟩
  rw [← hgd] at k1 k2 hg hm
  rw [← hmd] at hle hm
  have c2 : d1 * (d2 / g) = m := by
    have : g * (d1 * (d2 / g)) = g * m := by rw [Nat.mul_left_comm, k2, hm]
    exact Nat.eq_of_mul_eq_mul_left hg this
  have c1 : d1 / g * d2 = m := by
    have : g * (d1 / g * d2) = g * m := by rw [← Nat.mul_assoc, k1, hm]
    exact Nat.eq_of_mul_eq_mul_left hg this
  have b2 : d2 / g ≤ g1 := by
    have : d1 * (d2 / g) ≤ d1 * g1 := by rw [c2, Nat.mul_comm d1 g1, ← hL1]; exact hle
    exact Nat.le_of_mul_le_mul_left this hd1
  have b1 : d1 / g ≤ g2 := by
    have : d2 * (d1 / g) ≤ d2 * g2 := by rw [Nat.mul_comm d2, c1, Nat.mul_comm d2 g2, ← hL2]; exact hle
    exact Nat.le_of_mul_le_mul_left this hd2
  refine ⟨n1, d1, n2, d2, e1, e2, hd1, hd2, by omega, by omega, ?_, ?_⟩
  · rw [← hgd]
    have s1 : n1 * (d2 / g) ≤ g1 * n1 := by rw [Nat.mul_comm g1]; exact Nat.mul_le_mul_left _ b2
    have s2 : n2 * (d1 / g) ≤ g2 * n2 := by rw [Nat.mul_comm g2]; exact Nat.mul_le_mul_left _ b1
    omega
  · rw [← hgd, c1]
    omega

/-- A table of fractions N i k / L whose rows and columns add up. -/
structure AddsUp (p : List (List Rt)) (a b : List Int) (N : Nat → Nat → Nat) (A B : Nat → Nat) (L : Nat) : Prop where
  pos : 0 < L
  small : L ≤ 1000000000000000
  la : a.length ≤ 5
  lb : b.length ≤ 5
  tab : p = tbl a.length fun i => tbl b.length fun k => rat (N i k) L
  rows : ∀ i, i < a.length → a.getD i 0 = (A i : Int) ∧ A i ≤ 1000 ∧ nsum (N i) b.length = A i * L
  cols : ∀ k, k < b.length → b.getD k 0 = (B k : Int) ∧ B k ≤ 1000 ∧ nsum (fun i => N i k) a.length = B k * L

theorem rat_den {N L : Nat} (h : 0 < L) : 1 ≤ (rat N L).2 := by
  obtain ⟨g, n, d, hg, hd, rfl, rfl, e⟩ := rat_parts N L h
  rw [e]
  show (1 : Int) ≤ (d : Int)
  omega

@[push_cast] def addsCon : Con := ⟨[.dat (.sl (.sl (.prod .int .int))), .dat (.sl .int), .dat (.sl .int)], fun (x : List (List Rt) × List Int × List Int × Unit) => ∃ N A B L, AddsUp x.1 x.2.1 x.2.2.1 N A B L, fun _ => { res := [.val .bool true] }⟩

end Go.Proofs.Ytloipnalmkdldaa
