import Derived.Test.YtekfodeknpnkbaaGreatDoorT38
import Derived.Test.YtekfodeknpnkbaaGreatDoorT60
import Derived.Test.YtekfodeknpnkbaaGreatDoorT65
set_option linter.unusedSimpArgs false
set_option linter.unusedVariables false
namespace Go.Proofs.YtekfodeknpnkbaaGreatDoor
open Go.RowKit Go.VS Go.OT
def zOw (h:HX):List Int×List Int:=lpE (hSt h).2.1 (hSt h).2.2.1 (hSt h).1 (hSt h).2.2.2
@[push_cast] def zRw:Con:=⟨[.obj hFs],fun (x:HX×Unit)=>StateSz (hSt x.1),fun (x:HX×Unit)=>{res:=[.val (.prod (.sl .int) (.sl .int)) (zOw x.1)],objs:=[(0,⟨hFs,x.1⟩)]}⟩
theorem zHM:FnSpec Tryz.prog 38 zRw:=by
 refine FnSpec.of_tri' (E:=know _ [] [] []) (zAl (kc zCf (kc zHJ all_nil)) all_nil all_nil) Tryz.func38 rfl rfl (by kernel_rfl) ?_
 intro C x hE hnl hfit hpre
 simp only [Tryz.ntmps38,Tryz.results38,maxLen,seval,push_cast] at hnl hfit hpre ⊢
 obtain ⟨⟨⟨⟩,⟨⟩,(f:List (List Int)),(c:List (List Int)),(a:List Int),(b:List Int),(w:Int),(ord:List ByteArray),(bk:ByteArray),⟨⟩⟩,_⟩:=x
 dsimp only at hfit hpre ⊢
 have hsz:StateSz (c,a,b,w):=hpre
 replace hnl:=And.intro hnl (eq_true hsz)
 simp only [hSt,hBk,lst,zOw,push_cast] at hnl ⊢
 repeat' (first|(refine goK (by assumption) ?_; iterate 4 (try clear hK K))|(refine zAb fun K hK=>?_)|((first|refine zAa hE rfl ?_|refine zAi ?_); simp +contextual only [hnl,↓kA,push_cast,seval,reduceCtorEq,cI])|(refine zAg ?_; simp only [thenQ,zAh,if_true,if_false,Nat.reduceEqDiff,reduceCtorEq])|(refine zAe (by rfl) (fun hb=>?_) (fun hb=>?_)<;>(try simp only [bq,reduceCtorEq] at hb)<;>(try omega))|refine andS ?_|fail)
 all_goals rfl
@[push_cast] def zTl:Con:=⟨[.obj hFs,.dat (.sl (.sl .int)),.dat (.prod (.sl .int) (.sl .int))],fun (x:HX×List (List Int)×zA3×Unit)=>StateSz (hSt x.1),
 fun (x:HX×List (List Int)×zA3×Unit)=>{res:=[.val .int (errBL (hSt x.1).2.1 (hSt x.1).2.2.1 (hSt x.1).1 (hSt x.1).2.2.2 x.2.1 x.2.2.1)],objs:=[(0,⟨hFs,x.1⟩)]}⟩
theorem zIF:FnSpec Tryz.prog 36 zTl:=by
 refine FnSpec.of_tri' (E:=know _ [] [] []) (zAl (kc zCf (kc zJ7 all_nil)) all_nil all_nil) Tryz.func36 rfl rfl (by kernel_rfl) ?_
 intro C x hE hnl hfit hpre
 simp only [Tryz.ntmps36,Tryz.results36,maxLen,seval,push_cast] at hnl hfit hpre ⊢
 obtain ⟨⟨⟨⟩,⟨⟩,(f:List (List Int)),(c:List (List Int)),(a:List Int),(b:List Int),(w:Int),(ord:List ByteArray),(bk:ByteArray),⟨⟩⟩,(p:List (List Int)),⟨(u:List Int),(v:List Int)⟩,_⟩:=x
 dsimp only at hfit hpre ⊢
 have hsz:StateSz (c,a,b,w):=hpre
 replace hnl:=And.intro hnl (eq_true hsz)
 simp only [hSt,hBk,lst,push_cast] at hnl ⊢
 repeat' (first|(refine goK (by assumption) ?_; iterate 4 (try clear hK K))|(refine zAb fun K hK=>?_)|((first|refine zAa hE rfl ?_|refine zAi ?_); simp +contextual only [hnl,↓kA,push_cast,seval,reduceCtorEq,cI])|(refine zAg ?_; simp only [thenQ,zAh,if_true,if_false,Nat.reduceEqDiff,reduceCtorEq])|(refine zAe (by rfl) (fun hb=>?_) (fun hb=>?_)<;>(try simp only [bq,reduceCtorEq] at hb)<;>(try omega))|refine andS ?_|fail)
 all_goals rfl
end Go.Proofs.YtekfodeknpnkbaaGreatDoor
