/- The document's loose plans: dumps on both sides. Conditions: in each contract. -/
import Derived.Test.YtogopoiohckpdaeSm
import Derived.Test.YtogopoiohckpdaeHe
import Derived.Test.YtogopoiohckpdaeHp
namespace Go.Proofs.Ytogopoiohckpdae
open Go.RowKit Go.VS Go.OT
set_option linter.unusedSimpArgs false
set_option linter.unusedVariables false

/-- Masses with a dump, and the table with the costs of dumps. -/
def dumA (a b : List Int) (m : Int) : List Int := a ++ [lsum b - m]
def dumC (c : List (List Int)) (d e : Int) : List (List Int) := (c.map fun r => r ++ [d]) ++ [List.replicate (wid c) d ++ [e]]
structure DumP (a b : List Int) (c : List (List Int)) (m : Int) : Prop where
  f : ForOK a b c
  lo : 0 ≤ m
  hi : m ≤ lsum a ∧ m ≤ lsum b
end Go.Proofs.Ytogopoiohckpdae
