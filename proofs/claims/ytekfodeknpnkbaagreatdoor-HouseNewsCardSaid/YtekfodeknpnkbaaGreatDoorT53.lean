import Derived.Test.YtekfodeknpnkbaaGreatDoorT46
import Derived.Test.YtekfodeknpnkbaaGreatDoorT51
set_option linter.unusedSimpArgs false
set_option linter.unusedVariables false
namespace Go.Proofs.YtekfodeknpnkbaaGreatDoor
open Go.RowKit Go.VS
@[push_cast] def zPj:Con:=⟨[.sdat (.sl (.sl .int))],fun _=>True,fun (x:List (List Int)×Unit)=>if zAu x.1=0 then {res:=[.obj ⟨hFs,newH x.1⟩,.obj ⟨rFs,newR x.1⟩,.val .bool true]} else {res:=[.raw (.pointer none),.raw (.pointer none),.val .bool false]}⟩
theorem zCQ:FnSpec Tryz.prog 16 zPj:=by
 refine FnSpec.of_tri' (E:=know _ [] [] []) (zAl (kc zEO (kc zIS all_nil)) all_nil all_nil) Tryz.func16 rfl rfl (by kernel_rfl) ?_
 intro C x hE hnl hfit hpre
 simp only [Tryz.ntmps16,Tryz.results16,maxLen,seval,push_cast] at hnl hfit hpre ⊢
 obtain ⟨(c:List (List Int)),_⟩:=x
 dsimp only at hfit hpre ⊢
 by_cases he:zAu c=0
 ·replace hnl:=And.intro hnl he
  exact auA
 ·replace hnl:=And.intro hnl (eq_false he)
  exact auA
@[push_cast] def zMf:Con:=⟨[.sdat (.sl (.sl .int))],fun _=>True,fun (x:List (List Int)×Unit)=>{res:=[.val .bool (decide (¬zAu x.1=0))]}⟩
theorem zCU:FnSpec Tryz.prog 17 zMf:=by
 refine FnSpec.of_tri' (E:=know _ [] [] []) (zAl (kc zEO (kc zIS (kc zBU all_nil))) all_nil all_nil) Tryz.func17 rfl rfl (by kernel_rfl) ?_
 intro C x hE hnl hfit hpre
 simp only [Tryz.ntmps17,Tryz.results17,maxLen,seval,push_cast] at hnl hfit hpre ⊢
 obtain ⟨(c:List (List Int)),_⟩:=x
 dsimp only at hfit hpre ⊢
 by_cases he:zAu c=0
 ·replace hnl:=And.intro hnl he
  repeat' (first|(refine goK (by assumption) ?_; iterate 4 (try clear hK K))|(refine zAb fun K hK=>?_)|((first|refine zAa hE rfl ?_|refine zAi ?_); simp +contextual only [hnl,↓kA,push_cast,seval,reduceCtorEq,cI])|fail)
  simp
 ·replace hnl:=And.intro hnl (eq_false he)
  exact auA
end Go.Proofs.YtekfodeknpnkbaaGreatDoor
