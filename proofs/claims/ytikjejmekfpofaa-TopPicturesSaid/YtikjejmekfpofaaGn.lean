/- The ends of a plan, and which tables are plans between two masses. Conditions: in each contract. -/
import Derived.Test.YtikjejmekfpofaaG3
namespace Go.Proofs.Ytikjejmekfpofaa
open Go.RowKit Go.VS
set_option linter.unusedSimpArgs false
set_option linter.unusedVariables false

theorem errPair_ok {a b : List Int} (h : errPair a b = 0) : okMass a = true ∧ okMass b = true ∧ lsum a = lsum b := by
  unfold errPair at h
  split at h
  · split at h
    · split at h
      · exact ⟨by assumption, by assumption, by assumption⟩
      · simp at h
    · simp at h
  · simp at h

theorem flip_sums (p : List (List Int)) : rowsP (flipP p) = colsP p := by
  unfold rowsP flipP colsP
  simp only [tbl, List.map_map]
  refine List.map_congr_left fun c _ => ?_
  simp only [Function.comp_def, colP]
  rw [map_tbl p []]
  rfl

theorem InPlan.sumsR {p : List (List Int)} (h : InPlan p) : p.length ≤ 5 ∧ ∀ r ∈ p, ∀ k, InR (lsum (r.take k)) := by
  refine ⟨h.rows.2, fun r hr k => ?_⟩
  obtain ⟨i, hi, rfl⟩ := List.getElem_of_mem hr
  have := h.sumR hi k
  rw [List.getD_eq_getElem?_getD, List.getElem?_eq_getElem hi] at this
  simp only [Option.getD_some] at this
  unfold InR
  omega

theorem flip_row (p : List (List Int)) {c : Nat} (hc : c < wid p) : (flipP p).getD c [] = tbl p.length fun i => (p.getD i []).getD c 0 := tbl_get _ _ hc

theorem InPlan.flip {p : List (List Int)} (h : InPlan p) : InPlan (flipP p) := by
  have hw : wid (flipP p) = p.length := by
    unfold wid
    rw [flip_row p (by have := h.cols; omega), tbl_len]
  refine inPlan_of (by rw [flip_len]; exact h.cols) (by rw [hw]; exact h.rows) fun c hc => ?_
  rw [flip_len] at hc
  rw [hw, flip_row p hc]
  refine ⟨tbl_len _ _, fun i hi => ?_⟩
  rw [tbl_get _ _ hi]
  exact h.at hi hc

@[push_cast] def endsC2 : Con := ⟨[.dat (.sl (.sl .int))], fun _ => True, fun (x : List (List Int) × Unit) =>
  { res := [.own (.flat 3 .int (if errPlan x.1 = 0 then rowsP x.1 else [])), .own (.flat 3 .int (if errPlan x.1 = 0 then colsP x.1 else [])), .val .int (errPlan x.1)] }⟩

def errCheck (a b : List Int) (p : List (List Int)) : Int := if okMass a then if okMass b then if okPlan p then if lsum a = lsum b then if rowsP p = a ∧ colsP p = b then 0 else 7 else 5 else 1 else 1 else 1
@[push_cast] def checkCon : Con := ⟨[.dat (.sl .int), .dat (.sl .int), .dat (.sl (.sl .int))], fun _ => True, fun (x : List Int × List Int × List (List Int) × Unit) => { res := [.val .int (errCheck x.1 x.2.1 x.2.2.1)] }⟩

section
variable {a b : List Int} {p : List (List Int)}
theorem errPlan_no (h : ¬ errPlan p = 0) : okPlan p = false := by
  unfold errPlan at h
  split at h
  · simp at h
  · rename_i h2; simpa using h2
theorem check_a (h : ¬ errMass a = 0) : errMass a = errCheck a b p := by simp [errCheck, errMass, errMass_no h]
theorem check_b (h1 : errMass a = 0) (h : ¬ errMass b = 0) : errMass b = errCheck a b p := by simp [errCheck, errMass, errMass_ok h1, errMass_no h]
theorem check_p (h1 : errMass a = 0) (h2 : errMass b = 0) (h : ¬ errPlan p = 0) : errPlan p = errCheck a b p := by simp [errCheck, errPlan, errMass_ok h1, errMass_ok h2, errPlan_no h]
theorem check_f (h1 : errMass a = 0) (h2 : errMass b = 0) (h3 : errPlan p = 0) (h : ¬ lsum a = lsum b) : errCheck a b p = 5 := by simp [errCheck, errMass_ok h1, errMass_ok h2, okPlan_iff.2 (errPlan_in h3), h]
theorem check_s (h1 : errMass a = 0) (h2 : errMass b = 0) (h3 : errPlan p = 0) (h : lsum a = lsum b) : errCheck a b p = if rowsP p = a ∧ colsP p = b then 0 else 7 := by
  simp [errCheck, errMass_ok h1, errMass_ok h2, okPlan_iff.2 (errPlan_in h3), h]
theorem pair_f (h1 : errMass a = 0) (h2 : errMass b = 0) (h : ¬ errPair a b = 0) : errPair a b = 5 ∧ ¬ lsum a = lsum b := by
  unfold errPair at h ⊢
  rw [errMass_ok h1, errMass_ok h2] at h ⊢
  simp only [if_true] at h ⊢
  split at h
  · exact absurd rfl h
  · rename_i h3
    exact ⟨if_neg h3, h3⟩
end

end Go.Proofs.Ytikjejmekfpofaa
