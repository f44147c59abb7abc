/- How much can stay where it is. Conditions: in each contract. -/
import Derived.Test.YtloipnalmkdldaaFl
namespace Go.Proofs.Ytloipnalmkdldaa
open Go.RowKit Go.VS
set_option linter.unusedSimpArgs false
set_option linter.unusedVariables false

def stayF (a b : List Int) (i : Nat) : Int := min (a.getD i 0) (b.getD i 0)
def stayV (a b : List Int) : Int := lsum (tbl a.length (stayF a b))
def errStay (a b : List Int) : Int := if errMass a = 0 then if errMass b = 0 then if a.length = b.length then 0 else 5 else 1 else 1

theorem lsum_tbl_succ (f : Nat → Int) (n : Nat) : lsum (tbl (n + 1) f) = lsum (tbl n f) + f n := by
  rw [tbl_succ, lsum_append]
  simp [lsum]
theorem lsum_tbl_le {f g : Nat → Int} : ∀ (n : Nat), (∀ i, i < n → f i ≤ g i) → lsum (tbl n f) ≤ lsum (tbl n g)
  | 0, _ => Int.le_refl _
  | n + 1, h => by
    have h1 := lsum_tbl_le n (fun i hi => h i (by omega))
    have h2 := h n (by omega)
    rw [lsum_tbl_succ, lsum_tbl_succ]
    omega
theorem lsum_tbl_bound {f : Nat → Int} {M : Int} : ∀ (n : Nat), (∀ i, i < n → 0 ≤ f i ∧ f i ≤ M) → 0 ≤ lsum (tbl n f) ∧ lsum (tbl n f) ≤ M * n
  | 0, _ => by simp [tbl, lsum]
  | n + 1, h => by
    have h1 := lsum_tbl_bound n (fun i hi => h i (by omega))
    have h2 := h n (by omega)
    rw [lsum_tbl_succ, Int.natCast_add, Int.natCast_one, Int.mul_add, Int.mul_one]
    omega

theorem errMass_01 (a : List Int) : errMass a = 0 ∨ errMass a = 1 := by
  unfold errMass
  split <;> simp

@[push_cast] def stayCon : Con := ⟨[.dat (.sl .int), .dat (.sl .int)], fun _ => True, fun (x : List Int × List Int × Unit) => { res := [.val .int (if errStay x.1 x.2.1 = 0 then stayV x.1 x.2.1 else 0), .val .int (errStay x.1 x.2.1)] }⟩

section
variable {a b : List Int}
theorem errStay_a (h : ¬ errMass a = 0) : errMass a = errStay a b := by
  unfold errStay
  rw [if_neg h]
  exact (errMass_01 a).resolve_left h
theorem errStay_b (h1 : errMass a = 0) (h : ¬ errMass b = 0) : errMass b = errStay a b := by
  unfold errStay
  rw [if_pos h1, if_neg h]
  exact (errMass_01 b).resolve_left h
theorem errStay_5 (h1 : errMass a = 0) (h2 : errMass b = 0) (h : ¬ a.length = b.length) : errStay a b = 5 := by
  unfold errStay
  rw [if_pos h1, if_pos h2, if_neg h]
theorem errStay_0 (h1 : errMass a = 0) (h2 : errMass b = 0) (h : a.length = b.length) : errStay a b = 0 := by
  unfold errStay
  rw [if_pos h1, if_pos h2, if_pos h]
theorem errStay_in (h : errStay a b = 0) : errMass a = 0 ∧ errMass b = 0 ∧ a.length = b.length := by
  unfold errStay at h
  split at h
  · split at h
    · split at h
      · exact ⟨by assumption, by assumption, by assumption⟩
      · simp at h
    · simp at h
  · simp at h
theorem stayF_in (h1 : errMass a = 0) (h2 : errMass b = 0) (h : a.length = b.length) {i : Nat} (hi : i < a.length) : 0 ≤ stayF a b i ∧ stayF a b i ≤ 30 := by
  have k1 := okMass_mem (errMass_ok h1) _ (getD_mem 0 hi)
  have k2 := okMass_mem (errMass_ok h2) _ (getD_mem 0 (show i < b.length by omega))
  unfold stayF
  omega
end

end Go.Proofs.Ytloipnalmkdldaa
