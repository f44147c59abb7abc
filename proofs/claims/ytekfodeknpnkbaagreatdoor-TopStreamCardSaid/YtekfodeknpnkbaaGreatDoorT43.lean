import Derived.Test.YtekfodeknpnkbaaGreatDoorT42
set_option linter.unusedSimpArgs false
set_option linter.unusedVariables false
namespace Go.Proofs.YtekfodeknpnkbaaGreatDoor
open Go.RowKit Go.VS
@[push_cast] def zU2:Con:=⟨[.obj hFs],fun (x:HX×Unit)=>StateSz (hSt x.1),fun (x:HX×Unit)=>{res:=[.val .int (hSt x.1).2.2.2],objs:=[(0,⟨hFs,x.1⟩)]}⟩
theorem zEX:FnSpec Tryz.prog 31 zU2:=by
 refine FnSpec.of_tri' (E:=know _ [] [] []) (zAl (kc zCf all_nil) all_nil all_nil) Tryz.func31 rfl rfl (by kernel_rfl) ?_
 intro C x hE hnl hfit hpre
 simp only [Tryz.ntmps31,Tryz.results31,maxLen,seval,push_cast] at hnl hfit hpre ⊢
 obtain ⟨⟨⟨⟩,⟨⟩,(f:List (List Int)),(c:List (List Int)),(a:List Int),(b:List Int),(w:Int),(ord:List ByteArray),(bk:ByteArray),⟨⟩⟩,_⟩:=x
 dsimp only at hfit hpre ⊢
 have hsz:StateSz (c,a,b,w):=hpre
 replace hnl:=And.intro hnl (eq_true hsz)
 simp only [hSt,hBk,lst,push_cast] at hnl ⊢
 repeat' (first|(refine goK (by assumption) ?_; iterate 4 (try clear hK K))|(refine zAb fun K hK=>?_)|((first|refine zAa hE rfl ?_|refine zAi ?_); simp +contextual only [hnl,↓kA,push_cast,seval,reduceCtorEq,cI])|(refine zAg ?_; simp only [thenQ,zAh,if_true,if_false,Nat.reduceEqDiff,reduceCtorEq])|(refine zAe (by rfl) (fun hb=>?_) (fun hb=>?_)<;>(try simp only [bq,reduceCtorEq] at hb)<;>(try omega))|refine andS ?_|fail)
 all_goals rfl
end Go.Proofs.YtekfodeknpnkbaaGreatDoor
namespace Go.Proofs.YtekfodeknpnkbaaGreatDoor
open Go.RowKit Go.VS
@[push_cast] def zRn:Con:=⟨[.obj hFs],fun (x:HX×Unit)=>StateSz (hSt x.1),fun (x:HX×Unit)=>{res:=[.val (.sl .int) (hSt x.1).2.1,.val (.sl .int) (hSt x.1).2.2.1],objs:=[(0,⟨hFs,x.1⟩)]}⟩
theorem zD0:FnSpec Tryz.prog 28 zRn:=by
 refine FnSpec.of_tri' (E:=know _ [] [] []) (zAl (kc zCf all_nil) all_nil all_nil) Tryz.func28 rfl rfl (by kernel_rfl) ?_
 intro C x hE hnl hfit hpre
 simp only [Tryz.ntmps28,Tryz.results28,maxLen,seval,push_cast] at hnl hfit hpre ⊢
 obtain ⟨⟨⟨⟩,⟨⟩,(f:List (List Int)),(c:List (List Int)),(a:List Int),(b:List Int),(w:Int),(ord:List ByteArray),(bk:ByteArray),⟨⟩⟩,_⟩:=x
 dsimp only at hfit hpre ⊢
 have hsz:StateSz (c,a,b,w):=hpre
 replace hnl:=And.intro hnl (eq_true hsz)
 simp only [hSt,hBk,lst,push_cast] at hnl ⊢
 repeat' (first|(refine goK (by assumption) ?_; iterate 4 (try clear hK K))|(refine zAb fun K hK=>?_)|((first|refine zAa hE rfl ?_|refine zAi ?_|((first|refine zAc hE 1 rfl rfl (by kernel_rfl) ?_|refine zAc hE 2 rfl rfl (by kernel_rfl) ?_|refine zAc hE 3 rfl rfl (by kernel_rfl) ?_|refine zAc hE 4 rfl rfl (by kernel_rfl) ?_); simp only [List.length_cons,List.length_nil,Nat.reduceAdd,Nat.reduceSub,List.take_succ_cons,List.take_zero,List.drop_succ_cons,List.drop_zero])); simp +contextual only [hnl,↓kA,push_cast,seval,reduceCtorEq,cI])|(refine zAg ?_; simp only [thenQ,zAh,if_true,if_false,Nat.reduceEqDiff,reduceCtorEq])|(refine zAe (by rfl) (fun hb=>?_) (fun hb=>?_)<;>(try simp only [bq,reduceCtorEq] at hb)<;>(try omega))|refine andS ?_|fail)
 all_goals exact ⟨rfl,rfl⟩
end Go.Proofs.YtekfodeknpnkbaaGreatDoor
