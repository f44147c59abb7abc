/- A cheapest plan between masses. Conditions: in each contract. -/
import Derived.Test.YtogopoiohckpdacGk
import Derived.Test.YtogopoiohckpdacP1
namespace Go.Proofs.Ytogopoiohckpdac
open Go.RowKit Go.VS Go.OT
set_option linter.unusedSimpArgs false
set_option linter.unusedVariables false

end Go.Proofs.Ytogopoiohckpdac
