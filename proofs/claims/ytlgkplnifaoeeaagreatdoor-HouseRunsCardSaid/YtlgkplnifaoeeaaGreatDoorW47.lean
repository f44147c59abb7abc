import Derived.Test.YtlgkplnifaoeeaaGreatDoorW41
set_option linter.unusedSimpArgs false
set_option linter.unusedVariables false
namespace Go.Proofs.YtlgkplnifaoeeaaGreatDoor
open Go.RowKit Go.VS Go.OT
theorem zGZ (h:HX) (l:List ByteArray) {i:Nat} (hi:i<l.length):doAll h (l.take (i+1))=doX (doAll h (l.take i)) (l.getD i ByteArray.empty):=by
 have e:l.getD i ByteArray.empty=l[i]:=by rw [List.getD_eq_getElem?_getD,List.getElem?_eq_getElem hi]; rfl
 unfold doAll
 rw [List.take_succ_eq_append_getElem hi,List.foldl_append,e]
 rfl
end Go.Proofs.YtlgkplnifaoeeaaGreatDoor
