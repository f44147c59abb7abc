import Derived.Test.YtekfodeknpnkbaaGreatDoorT31
import Derived.Test.YtekfodeknpnkbaaGreatDoorT43
import Derived.Test.YtekfodeknpnkbaaGreatDoorT55
set_option linter.unusedSimpArgs false
set_option linter.unusedVariables false
namespace Go.Proofs.YtekfodeknpnkbaaGreatDoor
open Go.RowKit Go.VS
def planX (h:HX):List (List Int):=zHy (hSt h).2.1 (hSt h).2.2.1 (hSt h).1 (hSt h).2.2.2
@[push_cast] def zWu:Con:=⟨[.obj hFs],fun (x:HX×Unit)=>StateSz (hSt x.1),fun (x:HX×Unit)=>{res:=[.val (.sl (.sl .int)) (planX x.1)],objs:=[(0,⟨hFs,x.1⟩)]}⟩
theorem zHj:FnSpec Tryz.prog 33 zWu:=by
 refine FnSpec.of_tri' (E:=know _ [] [] []) (zAl (kc zCf (kc zIG all_nil)) all_nil all_nil) Tryz.func33 rfl rfl (by kernel_rfl) ?_
 intro C x hE hnl hfit hpre
 simp only [Tryz.ntmps33,Tryz.results33,maxLen,seval,push_cast] at hnl hfit hpre ⊢
 obtain ⟨⟨⟨⟩,⟨⟩,(f:List (List Int)),(c:List (List Int)),(a:List Int),(b:List Int),(w:Int),(ord:List ByteArray),(bk:ByteArray),⟨⟩⟩,_⟩:=x
 dsimp only at hfit hpre ⊢
 have hsz:StateSz (c,a,b,w):=hpre
 replace hnl:=And.intro hnl (eq_true hsz)
 simp only [hSt,hBk,lst,planX,push_cast] at hnl ⊢
 repeat' (first|(refine goK (by assumption) ?_; iterate 4 (try clear hK K))|(refine zAb fun K hK=>?_)|((first|refine zAa hE rfl ?_|refine zAi ?_); simp +contextual only [hnl,↓kA,push_cast,seval,reduceCtorEq,cI])|(refine zAg ?_; simp only [thenQ,zAh,if_true,if_false,Nat.reduceEqDiff,reduceCtorEq])|(refine zAe (by rfl) (fun hb=>?_) (fun hb=>?_)<;>(try simp only [bq,reduceCtorEq] at hb)<;>(try omega))|refine andS ?_|fail)
 all_goals rfl
end Go.Proofs.YtekfodeknpnkbaaGreatDoor
