import Derived.Test.YtekfodeknpnkbaaGreatDoorT28
import Derived.Test.YtekfodeknpnkbaaGreatDoorT42
set_option linter.unusedSimpArgs false
set_option linter.unusedVariables false
namespace Go.Proofs.YtekfodeknpnkbaaGreatDoor
open Go.RowKit Go.VS Go.OT
theorem HL.wok {h:HX} {L:List Line} (q:HL h L):WOK (hSt h):=⟨q.inv.st,q.w⟩
end Go.Proofs.YtekfodeknpnkbaaGreatDoor
