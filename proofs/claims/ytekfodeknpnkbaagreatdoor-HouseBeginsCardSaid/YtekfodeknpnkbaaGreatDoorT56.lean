import Derived.Test.YtekfodeknpnkbaaGreatDoorT35
import Derived.Test.YtekfodeknpnkbaaGreatDoorT50
import Derived.Test.YtekfodeknpnkbaaGreatDoorT53
import Derived.Test.YtekfodeknpnkbaaGreatDoorT54
set_option linter.unusedSimpArgs false
set_option linter.unusedVariables false
namespace Go.Proofs.YtekfodeknpnkbaaGreatDoor
open Go.RowKit Go.VS Go.OT
theorem zQD (h:HX) (l:List ByteArray) {i:Nat} (hi:i<l.length):doAll h (l.take (i+1))=doX (doAll h (l.take i)) (l.getD i ByteArray.empty):=by
 have e:l.getD i ByteArray.empty=l[i]:=by rw [List.getD_eq_getElem?_getD,List.getElem?_eq_getElem hi]; rfl
 unfold doAll
 rw [List.take_succ_eq_append_getElem hi,List.foldl_append,e]
 rfl
theorem zOC (x:RX) (l:List ByteArray) {i:Nat} (hi:i<l.length):zGP x (l.take (i+1))=rdoX (zGP x (l.take i)) (l.getD i ByteArray.empty):=by
 have e:l.getD i ByteArray.empty=l[i]:=by rw [List.getD_eq_getElem?_getD,List.getElem?_eq_getElem hi]; rfl
 unfold zGP
 rw [List.take_succ_eq_append_getElem hi,List.foldl_append,e]
 rfl
theorem zGC {c:List (List Int)}:∀ (l:List ByteArray) {h:HX} {L:List Line},Hist c h L→∃ M,Hist c (doAll h l) M
 | [],h,L,q=>⟨L,q⟩
 | t::l,h,L,q=>by
  by_cases e:doE h t=0
  ·exact zGC l (.step q e)
  ·have:=zGC l q
   show ∃ M,Hist c (doAll (doX h t) l) M
   rw [zL5 e]
   exact this
end Go.Proofs.YtekfodeknpnkbaaGreatDoor
namespace Go.Proofs.YtekfodeknpnkbaaGreatDoor
open Go.RowKit Go.VS
structure BothP (c:List (List Int)) (l:List ByteArray):Prop where
 c:zAu c=0
 l:∀ t∈l,t.size≤100000
@[push_cast] def zXI:Con:=⟨[.sdat (.sl (.sl .int)),.sdat (.sl .str)],fun (x:List (List Int)×List ByteArray×Unit)=>BothP x.1 x.2.1,fun (x:List (List Int)×List ByteArray×Unit) =>
 {res:=[.obj ⟨hFs,doAll (newH x.1) (x.2.1.take 30)⟩,.obj ⟨rFs,zGP (newR x.1) (x.2.1.take 30)⟩,.val .bool true]}⟩
set_option maxHeartbeats 8000000 in
theorem zIm:FnSpec Tryz.prog 21 zXI:=by
 refine FnSpec.of_tri' (E:=know _ [] [] []) (zAl (kc zCQ (kc zC2 (kc zLu all_nil))) all_nil all_nil) Tryz.func21 rfl rfl (by kernel_rfl) ?_
 intro C x hE hnl hfit hpre
 simp only [Tryz.ntmps21,Tryz.results21,maxLen,seval,push_cast] at hnl hfit hpre ⊢
 obtain ⟨(c:List (List Int)),(l:List ByteArray),_⟩:=x
 dsimp only at hfit hpre ⊢
 obtain ⟨hc,hls⟩:=hpre
 have hin:=zAR hc
 have hnl0:=hnl
 replace hnl:=And.intro hnl hc
 repeat' (first|(refine goK (by assumption) ?_; iterate 4 (try clear hK K))|(refine zAb fun K hK=>?_)|(refine zAa hE rfl ?_; simp +contextual only [hnl,↓kA,push_cast,seval,reduceCtorEq,cI])|refine zAd ?_|fail)
 refine zAk (fun (y:Nat×HX×RX)=>AS.of [(1,.one (.val (.sl .str) l)),(7,.one (.box 13)),(8,.one (.box 1013)),(9,.one (.val .bool true)),(10,.I y.1)] [] [(13,.rcd [.raw (.int .i32 0),.raw (.int .u32 0),.val (.sl (.sl .int)) y.2.1.2.2.1,.val (.sl (.sl .int)) y.2.1.2.2.2.1,.val (.sl .int) y.2.1.2.2.2.2.1,.val (.sl .int) y.2.1.2.2.2.2.2.1,.val .int y.2.1.2.2.2.2.2.2.1,.mk 13 9 .str y.2.1.2.2.2.2.2.2.2.1,.val .str y.2.1.2.2.2.2.2.2.2.2.1]),(1013,.rcd [.val (.sl (.sl .int)) y.2.2.1,.val (.sl .int) y.2.2.2.1,.val (.sl .int) y.2.2.2.2.1,.val .int y.2.2.2.2.2.1,.val .int y.2.2.2.2.2.2.1,.val (.sl (.prod .str .int)) y.2.2.2.2.2.2.2.1])]) (fun y=>(y.1≤l.length∧y.1≤30)∧HR y.2.1 y.2.2∧y.2.1=doAll (newH c) (l.take y.1)∧y.2.2=zGP (newR c) (l.take y.1)) (fun y=>30 - y.1) (0,newH c,newR c) ⟨⟨by omega,by omega⟩,HR.new hin,rfl,rfl⟩ ?_ ?_
 ·refine zAf ?_ ?_ ?_<;>simp only [push_cast,seval,reduceCtorEq,cI]
  all_goals first|rfl|exact ⟨rfl,rfl⟩
 rintro ⟨k,h,x⟩ ⟨⟨hk,hk2⟩,hr,eh,ex⟩ K' hL
 dsimp only at hk hk2 hr eh ex ⊢
 clear hc hin
 by_cases hlt:k<l.length∧k<30
 rotate_left
 ·have e1:l.take k=l.take 30:=by
   rcases Nat.lt_or_ge k 30 with h5|h5
   ·rw [List.take_of_length_le (by omega),List.take_of_length_le (by omega)]
   ·rw [show k=30 by omega]
  rw [e1] at eh ex
  obtain ⟨⟨⟩,⟨⟩,(f:List (List Int)),(c:List (List Int)),(a:List Int),(b:List Int),(w:Int),(ord:List ByteArray),(bk:ByteArray),⟨⟩⟩:=h
  obtain ⟨(rc:List (List Int)),(ra:List Int),(rb:List Int),(rw:Int),(rn:Int),(rl:List Line),⟨⟩⟩:=x
  dsimp only
  replace hnl:=hnl0
  repeat' (first|(refine goK (by assumption) ?_; iterate 4 (try clear hK K))|(refine zAb fun K hK=>?_)|((first|refine zAa hE rfl ?_|refine zAi ?_); simp +contextual only [hnl,↓kA,push_cast,seval,reduceCtorEq,cI])|(refine zAj ?_; simp only [thenQ,zAh,if_true,if_false,Nat.reduceEqDiff,reduceCtorEq])|(refine zAe (by rfl) (fun hb=>?_) (fun hb=>?_)<;>(try simp only [bq,reduceCtorEq] at hb)<;>(try omega))|refine andS ?_|(refine ⟨fun hc=>?_,fun hc=>?_⟩)|(intro hc; try omega))
  all_goals (rw [←eh,←ex]; exact ⟨rfl,rfl⟩)
 have h1:=hr.hl.inv
 have h2:=hr.rinv
 have h3:(l.getD k ByteArray.empty).size≤100000:=hls _ (zAJ _ hlt.1)
 have hq:=hr.doE (l.getD k ByteArray.empty)
 have hr2:=hr.doX (l.getD k ByteArray.empty)
 have eh2:=zQD (newH c) l hlt.1
 have ex2:=zOC (newR c) l hlt.1
 rw [←eh] at eh2
 rw [←ex] at ex2
 clear eh ex hls
 obtain ⟨e,he⟩:∃ e,doE h (l.getD k ByteArray.empty)=e:=⟨_,rfl⟩
 rw [he] at hq
 obtain ⟨⟨⟨⟩,⟨⟩,(f2:List (List Int)),(c2:List (List Int)),(a2:List Int),(b2:List Int),(w2:Int),(ord2:List ByteArray),(bk2:ByteArray),⟨⟩⟩,hh2⟩:∃ h2,doX h (l.getD k ByteArray.empty)=h2:=⟨_,rfl⟩
 obtain ⟨⟨(rc2:List (List Int)),(ra2:List Int),(rb2:List Int),(rw2:Int),(rn2:Int),(rl2:List Line),⟨⟩⟩,hx2⟩:∃ x2,rdoX x (l.getD k ByteArray.empty)=x2:=⟨_,rfl⟩
 rw [hh2] at hr2 eh2
 rw [hx2] at hr2 ex2
 obtain ⟨⟨⟩,⟨⟩,(f:List (List Int)),(c:List (List Int)),(a:List Int),(b:List Int),(w:Int),(ord:List ByteArray),(bk:ByteArray),⟨⟩⟩:=h
 obtain ⟨(rc:List (List Int)),(ra:List Int),(rb:List Int),(rw:Int),(rn:Int),(rl:List Line),⟨⟩⟩:=x
 dsimp only
 replace hnl:=And.intro hnl0 (And.intro (eq_true h1) (And.intro (eq_true h2) (And.intro he (And.intro hq (And.intro hh2 hx2)))))
 repeat' (first|(refine goK (by assumption) ?_; iterate 4 (try clear hK K))|(refine zAb fun K hK=>?_)|(refine zAa hE rfl ?_; simp +contextual only [hnl,↓kA,push_cast,seval,reduceCtorEq,cI])|refine zAd ?_|(refine zAg ?_; simp only [thenQ,zAh,if_true,if_false,Nat.reduceEqDiff,reduceCtorEq])|(refine zAe (by rfl) (fun hb=>?_) (fun hb=>?_)<;>(try simp only [bq,reduceCtorEq] at hb)<;>(try omega))|(refine ⟨fun hc=>?_,fun hc=>?_⟩)|fail)
 refine zBL hE (fun D s=>s.env 1=.one (.val (.sl .str) l) ∧
  s.env 7=.one (.box 13) ∧
  s.env 8=.one (.box 1013) ∧
  (D 13=false→s.env 9=.one (.val .bool true)) ∧
  s.env 10=.I k ∧
  (D 0=true→s.env 30=.one (.box 13)) ∧
  (D 1=true→s.env 31=.one (.val (.sl .str) l)) ∧
  (D 2=true→s.env 32=.I k) ∧
  (D 3=true→s.env 33=.one (.padr .str (l.getD k ByteArray.empty))) ∧
  (D 4=true→s.env 34=.one (.val .str (l.getD k ByteArray.empty))) ∧
  (D 5=true→s.env 35=.one (.val .int e)) ∧
  (D 6=true→s.env 36=.one (.box 1013)) ∧
  (D 7=true→s.env 37=.one (.val (.sl .str) l)) ∧
  (D 8=true→s.env 38=.I k) ∧
  (D 9=true→s.env 39=.one (.padr .str (l.getD k ByteArray.empty))) ∧
  (D 10=true→s.env 40=.one (.val .str (l.getD k ByteArray.empty))) ∧
  (D 11=true→s.env 41=.one (.val .int e)) ∧
  (D 12=true→s.env 42=.one (.val .bool true)) ∧
  (D 13=true→s.env 9=.one (.val .bool true)) ∧
  (D 5=false→s.boxes 13=some (.rcd [.raw (.int .i32 0),.raw (.int .u32 0),.val (.sl (.sl .int)) f,.val (.sl (.sl .int)) c,.val (.sl .int) a,.val (.sl .int) b,.val .int w,.mk 13 9 .str ord,.val .str bk])) ∧
  (D 5=true→s.boxes 13=some (.rcd [.raw (.int .i32 0),.raw (.int .u32 0),.val (.sl (.sl .int)) f2,.val (.sl (.sl .int)) c2,.val (.sl .int) a2,.val (.sl .int) b2,.val .int w2,.mk 13 9 .str ord2,.val .str bk2])) ∧
  (D 11=false→s.boxes 1013=some (.rcd [.val (.sl (.sl .int)) rc,.val (.sl .int) ra,.val (.sl .int) rb,.val .int rw,.val .int rn,.val (.sl (.prod .str .int)) rl])) ∧
  (D 11=true→s.boxes 1013=some (.rcd [.val (.sl (.sl .int)) rc2,.val (.sl .int) ra2,.val (.sl .int) rb2,.val .int rw2,.val .int rn2,.val (.sl (.prod .str .int)) rl2]))) rfl (by kernel_rfl) ?_ ?_ ?_
 ·dsimp only
  simp only [push_cast,seval,reduceCtorEq,cI]
 ·refine ⟨fun D s h0 hp hI=>?_,fun D s h0 hp hI=>?_,fun D s h0 hp hI=>?_,fun D s h0 hp hI=>?_,fun D s h0 hp hI=>?_,fun D s h0 hp hI=>?_,fun D s h0 hp hI=>?_,fun D s h0 hp hI=>?_,fun D s h0 hp hI=>?_,fun D s h0 hp hI=>?_,fun D s h0 hp hI=>?_,fun D s h0 hp hI=>?_,fun D s h0 hp hI=>?_,fun D s h0 hp hI=>?_,trivial⟩
  all_goals obtain ⟨E1,E7,E8,E9,E10,F0,F1,F2,F3,F4,F5,F6,F7,F8,F9,F10,F11,F12,F13,B0,B1,C0,C1⟩:=hI
  all_goals (try simp [preds,Region.binds] at hp)
  all_goals (simp +contextual only [*,setD,↓kN,↓kP,↓kG,push_cast,seval,reduceCtorEq,cI])
  all_goals first|omega|(refine And.intro ?_ ?_<;>omega)|rfl|skip
 intro D s hD hI
 obtain ⟨E1,E7,E8,E9,E10,F0,F1,F2,F3,F4,F5,F6,F7,F8,F9,F10,F11,F12,F13,B0,B1,C0,C1⟩:=hI
 have v1:=B1 (hD 5 (by decide))
 have v2:=C1 (hD 11 (by decide))
 refine hK _ ?_
 refine zAo (t:=AS.of [(1,.one (.val (.sl .str) l)),(7,.one (.box 13)),(8,.one (.box 1013)),(9,.one (.val .bool true)),(10,.I k)] [] [(13,.rcd [.raw (.int .i32 0),.raw (.int .u32 0),.val (.sl (.sl .int)) f2,.val (.sl (.sl .int)) c2,.val (.sl .int) a2,.val (.sl .int) b2,.val .int w2,.mk 13 9 .str ord2,.val .str bk2]),(1013,.rcd [.val (.sl (.sl .int)) rc2,.val (.sl .int) ra2,.val (.sl .int) rb2,.val .int rw2,.val .int rn2,.val (.sl (.prod .str .int)) rl2])]) ?_ ?_
 ·have v3:=F13 (hD 13 (by decide))
  refine zAf ?_ ?_ ?_<;>simp only [E1,E7,E8,E10,v1,v2,v3,push_cast,seval,reduceCtorEq,cI]
  all_goals first|exact ⟨_,rfl⟩|skip
 clear hK
 repeat' (first|(refine zAa hE rfl ?_; simp +contextual only [hnl,↓kA,push_cast,seval,reduceCtorEq,cI])|refine andS ?_|fail)
 refine hL _ (k+1,((),(),f2,c2,a2,b2,w2,ord2,bk2,()),(rc2,ra2,rb2,rw2,rn2,rl2,())) ⟨⟨by omega,by omega⟩,hr2,eh2.symm,ex2.symm⟩ (by dsimp only; omega) ?_
 refine zAf ?_ ?_ ?_<;>simp only [push_cast,seval,reduceCtorEq,cI]
end Go.Proofs.YtekfodeknpnkbaaGreatDoor
