import Derived.Test.YtekfodeknpnkbaaGreatDoorT44
import Derived.Test.YtekfodeknpnkbaaGreatDoorT46
import Derived.Test.YtekfodeknpnkbaaGreatDoorT49
import Derived.Test.YtekfodeknpnkbaaGreatDoorT59
import Derived.Test.YtekfodeknpnkbaaGreatDoorT60
set_option linter.unusedSimpArgs false
set_option linter.unusedVariables false
namespace Go.Proofs.YtekfodeknpnkbaaGreatDoor
open Go.RowKit Go.VS Go.OT
theorem HL.dox {h:HX} {L:List Line} (q:HL h L) (t:ByteArray):∃ M,HL (doX h t) M:=by
 by_cases e:doE h t=0
 ·exact ⟨_,q.step e⟩
 ·rw [zL5 e]; exact ⟨L,q⟩
@[push_cast] def zRT:Con:=⟨[.dat (.sl (.sl .int)),.dat (.sl .str)],fun _=>True,fun _=>{res:=[.val .bool true]}⟩
set_option maxHeartbeats 8000000 in
theorem zNa:FnSpec Tryz.prog 6 zRT:=by
 refine FnSpec.of_tri' (E:=know _ [] [] []) (zAl (kc zDg (kc zDB (kc zBU (kc zEO (kc zC2 (kc zD0 (kc zGb (kc zEX (kc zB7 (kc zHj (kc zIH (kc zRb all_nil)))))))))))) all_nil all_nil) Tryz.func6 rfl rfl (by kernel_rfl) ?_
 intro C x hE hnl hfit hpre
 simp only [Tryz.ntmps6,Tryz.results6,maxLen,seval,push_cast] at hnl hfit hpre ⊢
 obtain ⟨(q:List (List Int)),(l:List ByteArray),_⟩:=x
 dsimp only at hfit hpre ⊢
 have hnl0:=hnl
 by_cases he:zAu q=0
 rotate_left
 ·replace hnl:=And.intro hnl (eq_false he)
  exact auA
 have hin:=zAR he
 replace hnl:=And.intro hnl he
 repeat' (first|(refine goK (by assumption) ?_; iterate 4 (try clear hK K))|(refine zAb fun K hK=>?_)|((first|refine zAa hE rfl ?_|refine zAi ?_); simp +contextual only [hnl,↓kA,push_cast,seval,reduceCtorEq,cI])|refine zAd ?_|(refine zAg ?_; simp only [thenQ,zAh,if_true,if_false,Nat.reduceEqDiff,reduceCtorEq])|(refine zAe (by rfl) (fun hb=>?_) (fun hb=>?_)<;>(try simp only [bq,reduceCtorEq] at hb)<;>(try omega))|(refine ⟨fun hc=>?_,fun hc=>?_⟩)|fail)
 refine zAk (fun (y:Nat×HX)=>AS.of [(1,.one (.val (.sl .str) l)),(5,.one (.box 23)),(7,.I y.1)] [] [(23,.rcd [.raw (.int .i32 0),.raw (.int .u32 0),.val (.sl (.sl .int)) y.2.2.2.1,.val (.sl (.sl .int)) y.2.2.2.2.1,.val (.sl .int) y.2.2.2.2.2.1,.val (.sl .int) y.2.2.2.2.2.2.1,.val .int y.2.2.2.2.2.2.2.1,.mk 23 9 .str y.2.2.2.2.2.2.2.2.1,.val .str y.2.2.2.2.2.2.2.2.2.1])]) (fun y=>y.1≤l.length∧∃ M,HL y.2 M) (fun y=>l.length - y.1) (0,newH q) ⟨by omega,[],HL.new hin⟩ ?_ ?_
 ·refine zAf ?_ ?_ ?_<;>simp only [push_cast,seval,reduceCtorEq,cI]
  all_goals first|rfl|exact ⟨rfl,rfl⟩
 rintro ⟨k,h⟩ ⟨hk,M,hM⟩ K' hL
 dsimp only at hk hM ⊢
 clear he hin
 have h1:=hM.inv
 by_cases hlt:k<l.length∧k<30
 ·obtain ⟨M2,hM2⟩:=hM.dox (l.getD k ByteArray.empty)
  obtain ⟨⟨⟨⟩,⟨⟩,(f2:List (List Int)),(c2:List (List Int)),(a2:List Int),(b2:List Int),(w2:Int),(ord2:List ByteArray),(bk2:ByteArray),⟨⟩⟩,hh2⟩:∃ h2,doX h (l.getD k ByteArray.empty)=h2:=⟨_,rfl⟩
  rw [hh2] at hM2
  obtain ⟨⟨⟩,⟨⟩,(f:List (List Int)),(c:List (List Int)),(a:List Int),(b:List Int),(w:Int),(ord:List ByteArray),(bk:ByteArray),⟨⟩⟩:=h
  dsimp only
  replace hnl:=And.intro hnl0 (And.intro (eq_true h1) hh2)
  repeat' (first|(refine goK (by assumption) ?_; iterate 4 (try clear hK K))|(refine zAb fun K hK=>?_)|(refine zAa hE rfl ?_; simp +contextual only [hnl,↓kA,push_cast,seval,reduceCtorEq,cI])|refine zAd ?_|(refine zAg ?_; simp only [thenQ,zAh,if_true,if_false,Nat.reduceEqDiff,reduceCtorEq])|(refine zAe (by rfl) (fun hb=>?_) (fun hb=>?_)<;>(try simp only [bq,reduceCtorEq] at hb)<;>(try omega))|refine andS ?_|(refine ⟨fun hc=>?_,fun hc=>?_⟩)|fail)
  refine hL _ (k+1,((),(),f2,c2,a2,b2,w2,ord2,bk2,())) ⟨by omega,M2,hM2⟩ (by dsimp only; omega) ?_
  refine zAf ?_ ?_ ?_<;>simp only [push_cast,seval,reduceCtorEq,cI]
 ·have hw:=hM.wok.wd
  have hsz:StateSz (hSt h):=h1.st.sz
  obtain ⟨⟨⟩,⟨⟩,(f:List (List Int)),(c:List (List Int)),(a:List Int),(b:List Int),(w:Int),(ord:List ByteArray),(bk:ByteArray),⟨⟩⟩:=h
  have hS:hSt ((),(),f,c,a,b,w,ord,bk,())=(c,a,b,w):=rfl
  rw [hS] at hsz
  dsimp only at hw ⊢
  have hw':errWd a b c w=0:=hw
  obtain ⟨k1,k2⟩:=zJI hw'
  have e1:zA9 a b c w=zBa a b c w:=if_pos hw'
  have e2:zHy a b c w=stepP a b c (fewK a b c w):=if_pos hw'
  have e3:lst (c,a,b,w)=zBa a b c w:=e1
  have e4:planX ((),(),f,c,a,b,w,ord,bk,())=stepP a b c (fewK a b c w):=e2
  replace hnl:=And.intro hnl0 (And.intro hS (And.intro (eq_true hsz) (And.intro hw' (And.intro k1 (And.intro k2 (And.intro e1 (And.intro e2 (And.intro e3 e4))))))))
  exact auA
end Go.Proofs.YtekfodeknpnkbaaGreatDoor
