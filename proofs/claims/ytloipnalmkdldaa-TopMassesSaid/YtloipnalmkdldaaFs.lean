/- Tables of fractions: whether two are equal, the product of two masses, what adds up. Conditions: in each contract. -/
import Derived.Test.YtloipnalmkdldaaFr
import Derived.Test.YtloipnalmkdldaaFd
namespace Go.Proofs.Ytloipnalmkdldaa
open Go.RowKit Go.VS
set_option linter.unusedSimpArgs false
set_option linter.unusedVariables false

abbrev Rt : Type := Int × Int
@[push_cast] def sameRCon : Con := ⟨[.dat (.sl (.sl (.prod .int .int))), .dat (.sl (.sl (.prod .int .int)))], fun _ => True, fun (x : List (List Rt) × List (List Rt) × Unit) => { res := [.val .bool (decide (x.1 = x.2.1))] }⟩

theorem ne_row {p q : List (List Rt)} {i : Nat} (h : ¬ p.getD i [] = q.getD i []) : ¬ p = q := fun e => h (by rw [e])

def prodT (a b : List Int) : List (List Rt) := tbl a.length fun i => tbl b.length fun k => rat (a.getD i 0 * b.getD k 0).toNat (lsum a).toNat
def errProd (a b : List Int) : Int := if errPair a b = 0 then if lsum a = 0 then 6 else 0 else errPair a b
@[push_cast] def productCon : Con := ⟨[.dat (.sl .int), .dat (.sl .int)], fun _ => True, fun (x : List Int × List Int × Unit) =>
  { res := [.own (.deep 48 50 (.prod .int .int) (if errProd x.1 x.2.1 = 0 then prodT x.1 x.2.1 else [])), .val .int (errProd x.1 x.2.1)] }⟩

theorem mul_fits {x y : Int} (h1 : 0 ≤ x ∧ x ≤ 30) (h2 : 0 ≤ y ∧ y ≤ 30) : 0 ≤ x * y ∧ x * y ≤ 900 :=
  ⟨Int.mul_nonneg h1.1 h2.1, Int.le_trans (Int.mul_le_mul h1.2 h2.2 h2.1 (by omega)) (by omega)⟩

section
variable {a b : List Int}
theorem errProd_6 (h1 : errPair a b = 0) (h : lsum a = 0) : errProd a b = 6 := by
  unfold errProd
  rw [if_pos h1, if_pos h]
theorem errProd_0 (h1 : errPair a b = 0) (h : ¬ lsum a = 0) : errProd a b = 0 := by
  unfold errProd
  rw [if_pos h1, if_neg h]
theorem errProd_no (h1 : ¬ errPair a b = 0) : errProd a b = errPair a b := by
  unfold errProd
  rw [if_neg h1]
theorem errProd_in (h : errProd a b = 0) : errPair a b = 0 ∧ ¬ lsum a = 0 := by
  unfold errProd at h
  split at h
  · split at h
    · simp at h
    · exact ⟨by assumption, by assumption⟩
  · contradiction
theorem mass_sum (h : okMass a = true) : 0 ≤ lsum a ∧ lsum a ≤ 150 := by
  have h1 := lsum_bound 30 (by omega) a (okMass_mem h)
  have h2 := okMass_len h
  omega
end

end Go.Proofs.Ytloipnalmkdldaa
