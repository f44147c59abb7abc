import Derived.Test.YtekfodeknpnkbaaGreatDoorT70
import Derived.Test.YtekfodeknpnkbaaGreatDoorQtit
set_option linter.unusedSimpArgs false
set_option linter.unusedVariables false
namespace Go.Proofs.YtekfodeknpnkbaaGreatDoor
open Go.RowKit Go.VS
@[push_cast] def zWM:Con:=⟨[.obj hFs,.obj hFs],fun (x:HX×HX×Unit)=>StateSz (hSt x.1)∧hSt x.2.1=hSt x.1∧hBk x.2.1=hBk x.1,fun (x:HX×HX×Unit)=>{res:=[.val .bool true],objs:=[(0,⟨hFs,x.1⟩),(1,⟨hFs,x.2.1⟩)]}⟩
set_option maxHeartbeats 4000000 in
theorem zRN:FnSpec Tryz.prog 43 zWM:=by
 refine FnSpec.of_tri' (E:=know _ [] [] []) (zAl (kc zD0 (kc zJg (kc zRO (kc zGb (kc zEX (kc zB7 (kc zEg all_nil))))))) all_nil all_nil) Tryz.func43 rfl rfl (by kernel_rfl) ?_
 intro C x hE hnl hfit hpre
 simp only [Tryz.ntmps43,Tryz.results43,maxLen,seval,push_cast] at hnl hfit hpre ⊢
 obtain ⟨⟨⟨⟩,⟨⟩,(f:List (List Int)),(c:List (List Int)),(a:List Int),(b:List Int),(w:Int),(ord:List ByteArray),(bk:ByteArray),⟨⟩⟩,⟨⟨⟩,⟨⟩,(f2:List (List Int)),(c2:List (List Int)),(a2:List Int),(b2:List Int),(w2:Int),(ord2:List ByteArray),(bk2:ByteArray),⟨⟩⟩,_⟩:=x
 dsimp only at hfit hpre ⊢
 obtain ⟨hsz,hst,hbk⟩:=hpre
 have hsz:StateSz (c,a,b,w):=hsz
 have hst:(c2,a2,b2,w2)=(c,a,b,w):=hst
 replace hbk:bk=bk2:=(show bk2=bk from hbk).symm
 obtain ⟨rfl,rfl,rfl,rfl⟩:c=c2∧a=a2∧b=b2∧w=w2:=by simpa [eq_comm] using hst
 subst hbk
 have hS:hSt ((),(),f,c,a,b,w,ord,bk,())=(c,a,b,w):=rfl
 have hB:hBk ((),(),f,c,a,b,w,ord,bk,())=bk:=rfl
 have hS2:hSt ((),(),f2,c,a,b,w,ord2,bk,())=(c,a,b,w):=rfl
 have hB2:hBk ((),(),f2,c,a,b,w,ord2,bk,())=bk:=rfl
 replace hnl:=And.intro hnl (And.intro hS (And.intro hB (And.intro hS2 (And.intro hB2 (eq_true hsz)))))
 repeat' (first|(refine goK (by assumption) ?_; iterate 4 (try clear hK K))|(refine zAb fun K hK=>?_)|((first|refine zAa hE rfl ?_|refine zAi ?_); simp +contextual only [hnl,↓kA,push_cast,seval,reduceCtorEq,cI])|refine zAd ?_|((first|refine zAg ?_|refine zAj ?_); simp only [thenQ,zAh,if_true,if_false,Nat.reduceEqDiff,reduceCtorEq])|(refine zAe (by rfl) (fun hb=>?_) (fun hb=>?_)<;>(try simp only [bq,reduceCtorEq] at hb)<;>(try omega))|refine zAr (by rfl) ?_ ?_|refine andS ?_|(refine ⟨fun hc=>?_,fun hc=>?_⟩)|(intro hc; try omega))
 all_goals trace_state
end Go.Proofs.YtekfodeknpnkbaaGreatDoor
