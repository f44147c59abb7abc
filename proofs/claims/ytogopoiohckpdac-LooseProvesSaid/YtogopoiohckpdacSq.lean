/- The document's least and parts, by the program. Conditions: in each contract. -/
import Derived.Test.YtogopoiohckpdacSp
namespace Go.Proofs.Ytogopoiohckpdac
open Go.RowKit Go.VS Go.OT Go.LC
set_option linter.unusedSimpArgs false
set_option linter.unusedVariables false

end Go.Proofs.Ytogopoiohckpdac
