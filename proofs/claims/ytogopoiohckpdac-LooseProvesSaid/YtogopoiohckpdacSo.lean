/- The document's loose plans: dumps on both sides. Conditions: in each contract. -/
import Derived.Test.YtogopoiohckpdacSm
import Derived.Test.YtogopoiohckpdacHh
namespace Go.Proofs.Ytogopoiohckpdac
open Go.RowKit Go.VS Go.OT
set_option linter.unusedSimpArgs false
set_option linter.unusedVariables false

end Go.Proofs.Ytogopoiohckpdac
