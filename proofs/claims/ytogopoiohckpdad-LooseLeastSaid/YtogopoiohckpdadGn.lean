/- The ends of a plan, and which tables are plans between two masses. Conditions: in each contract. -/
import Derived.Test.YtogopoiohckpdadG3
namespace Go.Proofs.Ytogopoiohckpdad
open Go.RowKit Go.VS
set_option linter.unusedSimpArgs false
set_option linter.unusedVariables false

theorem flip_row (p : List (List Int)) {c : Nat} (hc : c < wid p) : (flipP p).getD c [] = tbl p.length fun i => (p.getD i []).getD c 0 := tbl_get _ _ hc

theorem InPlan.flip {p : List (List Int)} (h : InPlan p) : InPlan (flipP p) := by
  have hw : wid (flipP p) = p.length := by
    unfold wid
    rw [flip_row p (by have := h.cols; omega), tbl_len]
  refine inPlan_of (by rw [flip_len]; exact h.cols) (by rw [hw]; exact h.rows) fun c hc => ?_
  rw [flip_len] at hc
  rw [hw, flip_row p hc]
  refine ⟨tbl_len _ _, fun i hi => ?_⟩
  rw [tbl_get _ _ hi]
  exact h.at hi hc

section
variable {a b : List Int} {p : List (List Int)}
end

end Go.Proofs.Ytogopoiohckpdad
