/- The document's cheapest plan, its prices and its least. Conditions: in each contract. -/
import Derived.Test.YtogopoiohckpdacHe
namespace Go.Proofs.Ytogopoiohckpdac
open Go.RowKit Go.VS Go.OT Go.LC
set_option linter.unusedSimpArgs false
set_option linter.unusedVariables false

end Go.Proofs.Ytogopoiohckpdac
