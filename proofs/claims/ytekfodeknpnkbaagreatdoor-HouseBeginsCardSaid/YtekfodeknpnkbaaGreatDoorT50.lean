import Derived.Test.YtekfodeknpnkbaaGreatDoorT37
import Derived.Test.YtekfodeknpnkbaaGreatDoorT49
set_option linter.unusedSimpArgs false
set_option linter.unusedVariables false
namespace Go.Proofs.YtekfodeknpnkbaaGreatDoor
open Go.RowKit Go.VS
theorem zFM {l:List ByteArray} (h:zFm l=false):l.length≤300∧∀ t∈l,t.size≤400:=by
 unfold zFm at h
 rw [Bool.or_eq_false_iff,decide_eq_false_iff_not,List.any_eq_false] at h
 refine ⟨by omega,fun t ht=>?_⟩
 have:=h.1 t ht
 simp only [decide_eq_true_eq] at this
 omega
end Go.Proofs.YtekfodeknpnkbaaGreatDoor
