/- The document's least. Conditions: in each contract. -/
import Derived.Test.YtogopoiohckpdacHf
import Derived.Test.YtogopoiohckpdacHp
namespace Go.Proofs.Ytogopoiohckpdac
open Go.RowKit Go.VS Go.OT Go.LC
set_option linter.unusedSimpArgs false
set_option linter.unusedVariables false

/-! ### Both leasts are equal -/
section
variable {a b : List Int} {c : List (List Int)}
end

end Go.Proofs.Ytogopoiohckpdac
