/- How many units a cheapest plan moves; the statement LooseAmounts. Conditions: in each contract. -/
import Derived.Test.YtogopoiohckpdadSq
namespace Go.Proofs.Ytogopoiohckpdad
open Go.RowKit Go.VS Go.OT Go.LC
set_option linter.unusedSimpArgs false
set_option linter.unusedVariables false

theorem boolsA : (true != true) = false ∧ (false != false) = false ∧ (!true) = false ∧ (!false) = true ∧ (∀ n : Int, decide (n = n) = true) ∧ (∀ p : Prop, (False ∧ p) = False) ∧ (∀ p : Prop, (p ∧ False) = False) ∧ decide True = true ∧ decide False = false :=
  ⟨rfl, rfl, rfl, rfl, fun n => decide_eq_true rfl, fun p => false_and p, fun p => and_false p, rfl, rfl⟩
@[push_cast] def trueAm : Con := ⟨[.dat (.prod (.sl .int) (.prod (.sl .int) (.sl (.sl .int)))), .dat .int], fun _ => True, fun _ => { res := [.val .bool true] }⟩
end Go.Proofs.Ytogopoiohckpdad
