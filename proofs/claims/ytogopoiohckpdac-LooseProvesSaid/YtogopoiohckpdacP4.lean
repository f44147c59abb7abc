/- A plan is improved along rounds until prices prove it. No program; no condition. -/
import Derived.Test.YtogopoiohckpdacP3
namespace Go.LC
open Go.OT
set_option linter.unusedSimpArgs false
set_option linter.unusedVariables false

section
variable {R C : Nat} {c p : Nat → Nat → Int} {b : Nat → Nat} {x n : Nat}

end

section
variable {R C : Nat} {c p : List (List Int)} {b : Nat → Nat} {x n : Nat}

end

end Go.LC
