/- The document's least and parts: they are the program's. Conditions: in each contract. -/
import Derived.Test.YtogopoiohckpdacSo
namespace Go.Proofs.Ytogopoiohckpdac
open Go.RowKit Go.VS Go.OT Go.LC
set_option linter.unusedSimpArgs false
set_option linter.unusedVariables false

section
variable {a b : List Int} {c : List (List Int)} {m d e : Int}
end
end Go.Proofs.Ytogopoiohckpdac
