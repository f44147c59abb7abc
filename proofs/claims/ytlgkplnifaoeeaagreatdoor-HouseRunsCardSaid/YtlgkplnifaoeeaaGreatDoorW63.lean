import Derived.Test.YtlgkplnifaoeeaaGreatDoorW34
import Derived.Test.YtlgkplnifaoeeaaGreatDoorW39
set_option linter.unusedSimpArgs false
set_option linter.unusedVariables false
namespace Go.Proofs.YtlgkplnifaoeeaaGreatDoor
open Go.RowKit Go.VS Go.OT
theorem HL.dox {h:HX} {L:List Line} (q:HL h L) (t:ByteArray):∃ M,HL (doX h t) M:=by
 by_cases e:doE h t=0
 ·exact ⟨_,q.step e⟩
 ·rw [zLB e]; exact ⟨L,q⟩
end Go.Proofs.YtlgkplnifaoeeaaGreatDoor
