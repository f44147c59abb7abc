/- The smallest cost of a plan, a cheapest plan; the chapter's examples. Conditions: in each contract. -/
import Derived.Test.YtogopoiohckpdabGl
import Derived.Test.YtogopoiohckpdabG3
import Derived.Test.YtogopoiohckpdabG4
namespace Go.Proofs.Ytogopoiohckpdab
open Go.RowKit Go.VS
set_option linter.unusedSimpArgs false
set_option linter.unusedVariables false

theorem okMass_bnd {a : List Int} (h : okMass a = true) : (1 ≤ a.length ∧ a.length ≤ 6) ∧ Go.OT.Bnd 0 200 a :=
  ⟨by have := okMass_len h; omega, fun x hx => by have := okMass_mem h x hx; omega⟩
theorem ForOK.mc {a b : List Int} {c : List (List Int)} (h : ForOK a b c) : Go.OT.MC a b c := by
  have h1 := okMass_bnd h.ha
  have h2 := okMass_bnd h.hb
  have h3 := h.hc.tb (lo' := 0) (hi' := 99) (by omega) (by omega)
  rw [h.rows, h.cols] at h3
  exact ⟨h1.1, h2.1, h1.2, h2.2, h3⟩
end Go.Proofs.Ytogopoiohckpdab
