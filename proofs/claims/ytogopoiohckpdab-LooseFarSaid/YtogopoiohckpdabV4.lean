/- Value semantics, fourth part: a state weakened behind a function's body. Over any program; no condition. -/
import Derived.Test.YtogopoiohckpdabV3
namespace Go.VS
open Go.RowKit
set_option linter.unusedSimpArgs false
set_option linter.unusedVariables false

/-! ### What is lent: a list, a table -/
def flatI : RC → List Int
  | .flat _ s xs => (tryCast (.sl s) (.sl .int) xs).getD []
  | _ => []
@[push_cast] theorem flatI_flat (e : TypeId) (l : List Int) : flatI (.flat e .int l) = l := by
  simp only [flatI, tryCast_self, Option.getD_some]
def deepJ : RC → List (List Int)
  | .deep _ _ s xss => (tryCast (.sl (.sl s)) (.sl (.sl .int)) xss).getD []
  | _ => []
@[push_cast] theorem deepJ_deep (e e2 : TypeId) (p : List (List Int)) : deepJ (.deep e e2 .int p) = p := by
  simp only [deepJ, tryCast_self, Option.getD_some]
end Go.VS
