import Derived.Test.YtekfodeknpnkbaaGreatDoorT49
import Derived.Test.YtekfodeknpnkbaaGreatDoorT53
import Derived.Test.YtekfodeknpnkbaaGreatDoorT65
set_option linter.unusedSimpArgs false
set_option linter.unusedVariables false
namespace Go.Proofs.YtekfodeknpnkbaaGreatDoor
open Go.RowKit Go.VS
theorem zTg {q:List (List Int)} {h:HX} {M:List Line} (hM:Hist q h M) (t:ByteArray):∃ M,Hist q (doX h t) M:=by
 by_cases e:doE h t=0
 ·exact ⟨_,hM.step e⟩
 ·rw [zL5 e]; exact ⟨M,hM⟩
@[push_cast] def zQt:Con:=⟨[.dat (.sl (.sl .int)),.dat (.sl .str)],fun _=>True,fun _=>{res:=[.val .bool true]}⟩
set_option maxHeartbeats 8000000 in
theorem zLQ:FnSpec Tryz.prog 9 zQt:=by
 refine FnSpec.of_tri' (E:=know _ [] [] []) (zAl (kc zDg (kc zDB (kc zBU (kc zCQ (kc zCU (kc zC2 (kc zFC all_nil))))))) all_nil all_nil) Tryz.func9 rfl rfl (by kernel_rfl) ?_
 intro C x hE hnl hfit hpre
 simp only [Tryz.ntmps9,Tryz.results9,maxLen,seval,push_cast] at hnl hfit hpre ⊢
 obtain ⟨(q:List (List Int)),(l:List ByteArray),_⟩:=x
 dsimp only at hfit hpre ⊢
 have hnl0:=hnl
 by_cases he:zAu q=0
 rotate_left
 ·replace hnl:=And.intro hnl (eq_false he)
  exact auA
 have hin:=zAR he
 replace hnl:=And.intro hnl he
 repeat' (first|(refine goK (by assumption) ?_; iterate 4 (try clear hK K))|(refine zAb fun K hK=>?_)|((first|refine zAa hE rfl ?_|refine zAi ?_); simp +contextual only [hnl,↓kA,push_cast,seval,reduceCtorEq,cI])|refine zAd ?_|(refine zAg ?_; simp only [thenQ,zAh,if_true,if_false,Nat.reduceEqDiff,reduceCtorEq])|(refine zAe (by rfl) (fun hb=>?_) (fun hb=>?_)<;>(try simp only [bq,reduceCtorEq] at hb)<;>(try omega))|(refine ⟨fun hc=>?_,fun hc=>?_⟩)|fail)
 refine zAk (fun (y:Nat×HX)=>AS.of [(1,.one (.val (.sl .str) l)),(5,.one (.box 18)),(8,.I y.1)] [] [(18,.rcd [.raw (.int .i32 0),.raw (.int .u32 0),.val (.sl (.sl .int)) y.2.2.2.1,.val (.sl (.sl .int)) y.2.2.2.2.1,.val (.sl .int) y.2.2.2.2.2.1,.val (.sl .int) y.2.2.2.2.2.2.1,.val .int y.2.2.2.2.2.2.2.1,.mk 18 9 .str y.2.2.2.2.2.2.2.2.1,.val .str y.2.2.2.2.2.2.2.2.2.1])]) (fun y=>y.1≤l.length∧∃ M,Hist q y.2 M) (fun y=>l.length - y.1) (0,newH q) ⟨by omega,[],Hist.new⟩ ?_ ?_
 ·refine zAf ?_ ?_ ?_<;>simp only [push_cast,seval,reduceCtorEq,cI]
  all_goals first|rfl|exact ⟨rfl,rfl⟩|exact ⟨rfl,rfl,rfl⟩|trace_state
 rintro ⟨k,h⟩ ⟨hk,M,hM⟩ K' hL
 dsimp only at hk hM ⊢
 have h1:=(hM.hl hin).inv
 by_cases hlt:k<l.length∧k<30
 ·obtain ⟨M2,hM2⟩:=zTg hM (l.getD k ByteArray.empty)
  obtain ⟨⟨⟨⟩,⟨⟩,(f2:List (List Int)),(c2:List (List Int)),(a2:List Int),(b2:List Int),(w2:Int),(ord2:List ByteArray),(bk2:ByteArray),⟨⟩⟩,hh2⟩:∃ h2,doX h (l.getD k ByteArray.empty)=h2:=⟨_,rfl⟩
  rw [hh2] at hM2
  have hg:=zIB hin hM2
  obtain ⟨⟨⟩,⟨⟩,(f:List (List Int)),(c:List (List Int)),(a:List Int),(b:List Int),(w:Int),(ord:List ByteArray),(bk:ByteArray),⟨⟩⟩:=h
  dsimp only
  replace hnl:=And.intro hnl0 (And.intro (eq_true h1) (And.intro hh2 (eq_true hg)))
  repeat' (first|(refine goK (by assumption) ?_; iterate 4 (try clear hK K))|(refine zAb fun K hK=>?_)|(refine zAa hE rfl ?_; simp +contextual only [hnl,↓kA,push_cast,seval,reduceCtorEq,cI])|refine zAd ?_|(refine zAg ?_; simp only [thenQ,zAh,if_true,if_false,Nat.reduceEqDiff,reduceCtorEq])|(refine zAe (by rfl) (fun hb=>?_) (fun hb=>?_)<;>(try simp only [bq,reduceCtorEq] at hb)<;>(try omega))|refine andS ?_|(refine ⟨fun hc=>?_,fun hc=>?_⟩)|fail)
  all_goals (first|(refine hL _ (k+1,((),(),f2,c2,a2,b2,w2,ord2,bk2,())) ⟨by omega,M2,hM2⟩ (by dsimp only; omega) ?_; refine zAf ?_ ?_ ?_<;>simp only [push_cast,seval,reduceCtorEq,cI])|trace_state)
 ·have hg:=zIB hin hM
  obtain ⟨⟨⟩,⟨⟩,(f:List (List Int)),(c:List (List Int)),(a:List Int),(b:List Int),(w:Int),(ord:List ByteArray),(bk:ByteArray),⟨⟩⟩:=h
  dsimp only
  replace hnl:=And.intro hnl0 (eq_true hg)
  exact auA
end Go.Proofs.YtekfodeknpnkbaaGreatDoor
