/- Prices at a waste, by the document. Conditions: in each contract. -/
import Derived.Test.YtogopoiohckpdaeSg
namespace Go.Proofs.Ytogopoiohckpdae
open Go.RowKit Go.VS Go.OT
set_option linter.unusedSimpArgs false
set_option linter.unusedVariables false

theorem contraB {x y : Bool} (o : x = true → y = true) (h : y = false) : x = false := by
  cases x with
  | false => rfl
  | true => rw [o rfl] at h; cases h

end Go.Proofs.Ytogopoiohckpdae
