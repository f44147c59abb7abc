/- A cheapest plan between masses. Conditions: in each contract. -/
import Derived.Test.YtogopoiohckpdabGk
import Derived.Test.YtogopoiohckpdabP1
namespace Go.Proofs.Ytogopoiohckpdab
open Go.RowKit Go.VS Go.OT
set_option linter.unusedSimpArgs false
set_option linter.unusedVariables false

end Go.Proofs.Ytogopoiohckpdab
