/- What every statement of this program needs: no knob, the layout, the shapes of the types. No condition. -/
import Derived.Test.YtloipnalmkdldaaLc
import Derived.Test.YtloipnalmkdldaaVsX
import Derived.WalkKit
import Derived.ProofKit
import Derived.OpenShut
import Derived.ShutString
import Derived.ChangeOld
import Derived.Below
namespace Go.Proofs.Ytloipnalmkdldaa
open Go.RowKit Go.VS

theorem own : ownKnob Try.prog.godebug = none := by kernel_rfl
theorem laidOut : laidOutB Try.prog = true := by kernel_rfl
theorem partsOK : tab.partsOK = true := by kernel_rfl
end Go.Proofs.Ytloipnalmkdldaa
