import Derived.Test.YtekfodeknpnkbaaGreatDoorXat
import Derived.Test.YtekfodeknpnkbaaGreatDoorT69
set_option linter.unusedSimpArgs false
set_option linter.unusedVariables false
namespace Go.Proofs.YtekfodeknpnkbaaGreatDoor
open Go.RowKit Go.VS
def zZ3 (s:List (List Int)×List ByteArray×Int):Bool:=longV s.1 || decide (200<(s.2.1.length:Int))
@[push_cast] def zVW:Con:=⟨[.dat (.prod (.sl (.sl .int)) (.prod (.sl .str) .int))],fun _=>True,fun (x:(List (List Int)×List ByteArray×Int)×Unit)=>{res:=[.val .bool (decide (zZ3 x.1=true))]}⟩
theorem zJ4:FnSpec Tryz.prog 41 zVW:=by
 refine FnSpec.of_tri' (E:=know _ [] [] []) (zAl (kc zTC all_nil) all_nil all_nil) Tryz.func41 rfl rfl (by kernel_rfl) ?_
 intro C x hE hnl hfit hpre
 simp only [Tryz.ntmps41,Tryz.results41,maxLen,seval,push_cast] at hnl hfit hpre ⊢
 obtain ⟨⟨(q:List (List Int)),(l:List ByteArray),(n:Int)⟩,_⟩:=x
 dsimp only at hfit hpre ⊢
 refine zAb fun K hK=>?_
 refine zAa hE rfl ?_
 simp +contextual only [hnl,↓kA,push_cast,seval,reduceCtorEq,cI]
 refine ⟨⟨_,_,rfl⟩,goK hK ?_⟩
 clear hK K
 refine zOB 1 1 (sh:=(.prod (.sl (.sl .int)) (.prod (.sl .str) .int))) (x:=(q,l,n)) (by simp only [push_cast,seval,reduceCtorEq,cI]) (by simp only [push_cast,seval,reduceCtorEq,cI]) ?_
 have e:zZ3 (q,l,n)=(longV q || decide (200<(l.length:Int))):=rfl
 by_cases h1:longV q=true
 ·rw [h1,Bool.true_or] at e
  replace hnl:=And.intro hnl (And.intro h1 e)
  repeat' (first|(refine goK (by assumption) ?_; iterate 4 (try clear hK K))|(refine zAb fun K hK=>?_)|((first|refine zAa hE rfl ?_|refine zAi ?_); simp +contextual only [hnl,↓kA,push_cast,seval,reduceCtorEq,cI])|refine zAd ?_|((first|refine zAg ?_|refine zAj ?_); simp only [thenQ,zAh,if_true,if_false,Nat.reduceEqDiff,reduceCtorEq])|(refine zAe (by rfl) (fun hb=>?_) (fun hb=>?_)<;>(try simp only [bq,reduceCtorEq] at hb)<;>(try omega))|refine zAr (by rfl) ?_ ?_|refine andS ?_|(refine ⟨fun hc=>?_,fun hc=>?_⟩)|(intro hc; try omega))
  all_goals trace_state
 ·rw [Bool.not_eq_true] at h1
  rw [h1,Bool.false_or] at e
  replace hnl:=And.intro hnl (And.intro h1 e)
  repeat' (first|(refine goK (by assumption) ?_; iterate 4 (try clear hK K))|(refine zAb fun K hK=>?_)|((first|refine zAa hE rfl ?_|refine zAi ?_); simp +contextual only [hnl,↓kA,push_cast,seval,reduceCtorEq,cI])|refine zAd ?_|((first|refine zAg ?_|refine zAj ?_); simp only [thenQ,zAh,if_true,if_false,Nat.reduceEqDiff,reduceCtorEq])|(refine zAe (by rfl) (fun hb=>?_) (fun hb=>?_)<;>(try simp only [bq,reduceCtorEq] at hb)<;>(try omega))|refine zAr (by rfl) ?_ ?_|refine andS ?_|(refine ⟨fun hc=>?_,fun hc=>?_⟩)|(intro hc; try omega))
  all_goals first|rfl|(simp only [decide_eq_true_eq]; done)|trace_state
end Go.Proofs.YtekfodeknpnkbaaGreatDoor
