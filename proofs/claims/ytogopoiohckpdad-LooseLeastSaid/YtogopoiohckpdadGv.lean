/- The smallest cost of a plan, a cheapest plan; the chapter's examples. Conditions: in each contract. -/
import Derived.Test.YtogopoiohckpdadGl
import Derived.Test.YtogopoiohckpdadG3
import Derived.Test.YtogopoiohckpdadG4
namespace Go.Proofs.Ytogopoiohckpdad
open Go.RowKit Go.VS
set_option linter.unusedSimpArgs false
set_option linter.unusedVariables false

theorem okMass_bnd {a : List Int} (h : okMass a = true) : (1 ≤ a.length ∧ a.length ≤ 6) ∧ Go.OT.Bnd 0 200 a :=
  ⟨by have := okMass_len h; omega, fun x hx => by have := okMass_mem h x hx; omega⟩
theorem ForOK.mc {a b : List Int} {c : List (List Int)} (h : ForOK a b c) : Go.OT.MC a b c := by
  have h1 := okMass_bnd h.ha
  have h2 := okMass_bnd h.hb
  have h3 := h.hc.tb (lo' := 0) (hi' := 99) (by omega) (by omega)
  rw [h.rows, h.cols] at h3
  exact ⟨h1.1, h2.1, h1.2, h2.2, h3⟩
def leastV (a b : List Int) (c : List (List Int)) : Int := if errFits a b c = 0 then spend c (Go.OT.cheapV a b c) else 0
theorem leastV_0 {a b : List Int} {c : List (List Int)} (h : errFits a b c = 0) : leastV a b c = spend c (Go.OT.cheapV a b c) := if_pos h
end Go.Proofs.Ytogopoiohckpdad
