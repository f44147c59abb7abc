/- The ends of a plan, and which tables are plans between two masses. Conditions: in each contract. -/
import Derived.Test.YtogopoiohckpdabG3
namespace Go.Proofs.Ytogopoiohckpdab
open Go.RowKit Go.VS
set_option linter.unusedSimpArgs false
set_option linter.unusedVariables false

section
variable {a b : List Int} {p : List (List Int)}
end

end Go.Proofs.Ytogopoiohckpdab
