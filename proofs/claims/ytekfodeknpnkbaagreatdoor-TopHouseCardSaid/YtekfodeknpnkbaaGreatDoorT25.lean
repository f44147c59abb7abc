import Derived.Test.YtekfodeknpnkbaaGreatDoorT19
set_option linter.unusedSimpArgs false
set_option linter.unusedVariables false
namespace Go.Proofs.YtekfodeknpnkbaaGreatDoor
open Go.RowKit Go.VS
end Go.Proofs.YtekfodeknpnkbaaGreatDoor
namespace Go.Proofs.YtekfodeknpnkbaaGreatDoor
open Go.RowKit Go.VS
end Go.Proofs.YtekfodeknpnkbaaGreatDoor
namespace Go.Proofs.YtekfodeknpnkbaaGreatDoor
open Go.RowKit Go.VS
@[push_cast] def zP8:Con:=⟨[.dat (.sl (.sl .int)),.dat (.sl (.sl .int))],fun _=>True,fun (x:List (List Int)×List (List Int)×Unit)=>{res:=[.val .bool (decide (x.1=x.2.1))]}⟩
end Go.Proofs.YtekfodeknpnkbaaGreatDoor
namespace Go.Proofs.YtekfodeknpnkbaaGreatDoor
open Go.RowKit Go.VS
end Go.Proofs.YtekfodeknpnkbaaGreatDoor
namespace Go.Proofs.YtekfodeknpnkbaaGreatDoor
open Go.RowKit Go.VS
theorem zJ9 {s:Int} {x:Line} (h:LinePre x):(lineV s x).size≤1090:=by
 have q1:=zCu h.least
 have q4:(textV x.2 x.1).size=(itoaV x.2).size+1+x.1.size:=by unfold textV; rw [zAU,zAU]; rfl
 have q5:=zCi s (textV x.2 x.1) (textV x.2 x.1).size
 have q6:InR (sumV s (textV x.2 x.1)):=by unfold InR sumV; omega
 have q7:=zCu q6
 have q8:(lineV s x).size=(itoaV (sumV s (textV x.2 x.1))).size+1+(textV x.2 x.1).size:=by
  unfold lineV
  rw [zAU,zAU]
  rfl
 have q9:=h.order
 omega
theorem zLL {l:List Line} (h:WritePre l):∀ k,k≤l.length→(wrK l k).1.size≤1100*k
 | 0,_=>Nat.zero_le _
 | k+1,hk=>by
  have ih:=zLL h k (by omega)
  have hx:LinePre (l.getD k (ByteArray.empty,0)):=h.all _ (zAJ _ hk)
  have:=zJ9 (s:=(wrK l k).2) hx
  show ((wrK l k).1++(lineV (wrK l k).2 (l.getD k (ByteArray.empty,0))++{data:=#[10]})).size≤_
  rw [zAU,zAU]
  have e:({data:=#[10]}:ByteArray).size=1:=rfl
  omega
end Go.Proofs.YtekfodeknpnkbaaGreatDoor
