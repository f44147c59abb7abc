/- The document's parts; the statement LooseParts. Conditions: in each contract. -/
import Derived.Test.YtogopoiohckpdabSq
namespace Go.Proofs.Ytogopoiohckpdab
open Go.RowKit Go.VS Go.OT Go.LC
set_option linter.unusedSimpArgs false
set_option linter.unusedVariables false

end Go.Proofs.Ytogopoiohckpdab
