import Derived.Test.YtekfodeknpnkbaaGreatDoorT24
import Derived.Test.YtekfodeknpnkbaaGreatDoorT31
set_option linter.unusedSimpArgs false
set_option linter.unusedVariables false
namespace Go.Proofs.YtekfodeknpnkbaaGreatDoor
open Go.RowKit Go.VS
theorem zIg {α:Type} (f:Nat→α):tbl 0 f=[]:=rfl
end Go.Proofs.YtekfodeknpnkbaaGreatDoor
namespace Go.Proofs.YtekfodeknpnkbaaGreatDoor
open Go.RowKit Go.VS
section
variable {c:List (List Int)} {ps:List Int}
end
end Go.Proofs.YtekfodeknpnkbaaGreatDoor
namespace Go.Proofs.YtekfodeknpnkbaaGreatDoor
open Go.RowKit Go.VS
end Go.Proofs.YtekfodeknpnkbaaGreatDoor
