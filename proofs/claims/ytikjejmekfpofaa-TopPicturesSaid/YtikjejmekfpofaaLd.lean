/- What every statement of this program needs: no knob, the layout, the shapes of the types. No condition. -/
import Derived.Test.YtikjejmekfpofaaLc
import Derived.Test.YtikjejmekfpofaaVsX
import Derived.WalkKit
import Derived.ProofKit
import Derived.OpenShut
import Derived.ShutString
import Derived.ChangeOld
import Derived.Below
namespace Go.Proofs.Ytikjejmekfpofaa
open Go.RowKit Go.VS

theorem own : ownKnob Try.prog.godebug = none := by kernel_rfl
theorem laidOut : laidOutB Try.prog = true := by kernel_rfl
theorem partsOK : tab.partsOK = true := by kernel_rfl
theorem gdOK (w : World) : Gd Try.prog w := Gd.of_none w (by kernel_rfl)
end Go.Proofs.Ytikjejmekfpofaa
