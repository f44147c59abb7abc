import Derived.Test.YtlgkplnifaoeeaaGreatDoorW36
import Derived.Test.YtlgkplnifaoeeaaGreatDoorW47
import Derived.Test.YtlgkplnifaoeeaaGreatDoorW63
set_option linter.unusedSimpArgs false
set_option linter.unusedVariables false
namespace Go.Proofs.YtlgkplnifaoeeaaGreatDoor
open Go.RowKit Go.VS
def esV (h:HX) (l:List ByteArray):List Int:=tbl l.length fun i=>doE (doAll h (l.take i)) (l.getD i ByteArray.empty)
def runE (c:List (List Int)) (l:List ByteArray):Int:=if zAs c=0 then (if 60<(l.length:Int) then 3 else 0) else zAs c
@[push_cast] def zYj:Con:=⟨[.sdat (.sl (.sl .int)),.sdat (.sl .str)],fun _=>True,fun (x:List (List Int)×List ByteArray×Unit) =>
 {res:=[.val (.sl .int) (if runE x.1 x.2.1=0 then esV (newH x.1) x.2.1 else []),.val .str (if runE x.1 x.2.1=0 then hBk (doAll (newH x.1) x.2.1) else ByteArray.empty),.val .int (runE x.1 x.2.1)]}⟩
set_option maxHeartbeats 8000000 in
theorem zUY:FnSpec Tryz.prog 28 zYj:=by
 refine FnSpec.of_tri' (E:=know _ [] [] []) (zAl (kc zEN (kc zC3 (kc zD9 all_nil))) all_nil all_nil) Tryz.func28 rfl rfl (by kernel_rfl) ?_
 intro C x hE hnl hfit hpre
 simp only [Tryz.ntmps28,Tryz.results28,maxLen,seval,push_cast] at hnl hfit hpre ⊢
 obtain ⟨(q:List (List Int)),(l:List ByteArray),_⟩:=x
 dsimp only at hfit hpre ⊢
 have hem:({data:=#[]}:ByteArray)=ByteArray.empty:=rfl
 have hnl0:=hnl
 by_cases he:zAs q=0
 rotate_left
 ·have e1:runE q l=zAs q:=if_neg he
  replace hnl:=And.intro hnl (And.intro e1 (And.intro (eq_false he) hem))
  exact auA
 by_cases h60:60<(l.length:Int)
 ·have e1:runE q l=3:=by unfold runE; rw [if_pos he,if_pos h60]
  replace hnl:=And.intro hnl (And.intro e1 (And.intro he hem))
  exact auA
 have e1:runE q l=0:=by unfold runE; rw [if_pos he,if_neg h60]
 have hin:=zAK he
 replace hnl:=And.intro hnl (And.intro e1 (And.intro he hem))
 repeat' (first|(refine goK (by assumption) ?_; iterate 4 (try clear hK K))|(refine zAc fun K hK=>?_)|(refine zAa hE rfl ?_; simp +contextual only [hnl,↓kN,↓kP,↓kG,↓qN,↓qP,↓qG,push_cast,seval,reduceCtorEq,Int.cast_ofNat_Int])|refine zAd ?_|(refine zAf ?_; simp only [thenQ,zAi,if_true,if_false,Nat.reduceEqDiff,reduceCtorEq])|(refine zAe (by rfl) (fun hb=>?_) (fun hb=>?_)<;>(try simp only [bqa,bqb,bqc,bqd,reduceCtorEq,bqe,bqf] at hb)<;>(try omega))|fail)
 refine zAk (fun (y:Nat×HX)=>AS.of [(7,.one (.box 14)),(9,.one (.ref 34)),(23,.one (.val (.sl .str) l)),(24,.I l.length),(25,.I y.1)] [(34,.flat 26 .int (tbl y.1 fun i=>doE (doAll (newH q) (l.take i)) (l.getD i ByteArray.empty)))] [(14,.rcd [.raw (.int .i32 0),.raw (.int .u32 0),.val (.sl (.sl .int)) y.2.2.2.1,.val (.sl (.sl .int)) y.2.2.2.2.1,.val (.sl .int) y.2.2.2.2.2.1,.val (.sl .int) y.2.2.2.2.2.2.1,.val .int y.2.2.2.2.2.2.2.1,.mk 14 9 .str y.2.2.2.2.2.2.2.2.1,.val .str y.2.2.2.2.2.2.2.2.2.1])]) (fun y=>y.1≤l.length∧(∃ M,HL y.2 M)∧y.2=doAll (newH q) (l.take y.1)) (fun y=>l.length - y.1) (0,newH q) ⟨by omega,⟨[],HL.new hin⟩,rfl⟩ ?_ ?_
 ·refine zAg ?_ ?_ ?_<;>simp only [push_cast,seval,reduceCtorEq,Int.cast_ofNat_Int]
  all_goals first|omega|rfl|exact ⟨rfl,rfl⟩|exact ⟨by omega,rfl⟩|trace_state
 rintro ⟨k,h⟩ ⟨hk,⟨M,hM⟩,hy⟩ K' hL
 dsimp only at hk hM hy ⊢
 have h1:=hM.inv
 have htl:=zAZ k fun i=>doE (doAll (newH q) (l.take i)) (l.getD i ByteArray.empty)
 rcases Nat.lt_or_ge k l.length with hlt|hge
 ·obtain ⟨M2,hM2⟩:=hM.dox (l.getD k ByteArray.empty)
  have hy2:=zGZ (newH q) l hlt
  have hts:tbl (k+1) (fun i=>doE (doAll (newH q) (l.take i)) (l.getD i ByteArray.empty))=tbl k (fun i=>doE (doAll (newH q) (l.take i)) (l.getD i ByteArray.empty))++[doE h (l.getD k ByteArray.empty)]:=by rw [zD2,←hy]
  rw [←hy] at hy2
  obtain ⟨e,hde⟩:∃ e,doE h (l.getD k ByteArray.empty)=e:=⟨_,rfl⟩
  rw [hde] at hts
  obtain ⟨⟨⟨⟩,⟨⟩,(f2:List (List Int)),(c2:List (List Int)),(a2:List Int),(b2:List Int),(w2:Int),(ord2:List ByteArray),(bk2:ByteArray),⟨⟩⟩,hh2⟩:∃ h2,doX h (l.getD k ByteArray.empty)=h2:=⟨_,rfl⟩
  rw [hh2] at hM2 hy2
  obtain ⟨⟨⟩,⟨⟩,(f:List (List Int)),(c:List (List Int)),(a:List Int),(b:List Int),(w:Int),(ord:List ByteArray),(bk:ByteArray),⟨⟩⟩:=h
  dsimp only
  replace hnl:=And.intro hnl0 (And.intro (eq_true h1) (And.intro hde (And.intro hh2 htl)))
  repeat' (first|(refine goK (by assumption) ?_; iterate 4 (try clear hK K))|(refine zAc fun K hK=>?_)|(refine zAa hE rfl ?_; simp +contextual only [hnl,↓kN,↓kP,↓kG,↓qN,↓qP,↓qG,push_cast,seval,reduceCtorEq,Int.cast_ofNat_Int])|refine zAd ?_|(refine zAf ?_; simp only [thenQ,zAi,if_true,if_false,Nat.reduceEqDiff,reduceCtorEq])|(refine zAe (by rfl) (fun hb=>?_) (fun hb=>?_)<;>(try simp only [bqa,bqb,bqc,bqd,reduceCtorEq,bqe,bqf] at hb)<;>(try omega))|refine andS ?_|fail)
  refine hL _ (k+1,((),(),f2,c2,a2,b2,w2,ord2,bk2,())) ⟨by omega,⟨M2,hM2⟩,hy2.symm⟩ (by dsimp only; omega) ?_
  refine zAg ?_ ?_ ?_<;>simp only [push_cast,seval,reduceCtorEq,Int.cast_ofNat_Int]
  all_goals first|exact .inl hts.symm|exact .inl (by rw [hts])|trace_state
 ·obtain rfl:k=l.length:=by omega
  rw [List.take_length] at hy
  have hsz:=h1.st.sz
  obtain ⟨⟨⟩,⟨⟩,(f:List (List Int)),(c:List (List Int)),(a:List Int),(b:List Int),(w:Int),(ord:List ByteArray),(bk:ByteArray),⟨⟩⟩:=h
  have hS:hSt ((),(),f,c,a,b,w,ord,bk,())=(c,a,b,w):=rfl
  have hB:hBk ((),(),f,c,a,b,w,ord,bk,())=bk:=rfl
  rw [hS] at hsz
  dsimp only
  have hes:esV (newH q) l=tbl l.length fun i=>doE (doAll (newH q) (l.take i)) (l.getD i ByteArray.empty):=rfl
  have hB3:hBk (doAll (newH q) l)=bk:=by rw [←hy]; rfl
  refine zAo (t:=AS.of [(7,.one (.box 14)),(9,.one (.val (.sl .int) (esV (newH q) l))),(24,.I l.length),(25,.I l.length)] [] [(14,.rcd [.raw (.int .i32 0),.raw (.int .u32 0),.val (.sl (.sl .int)) f,.val (.sl (.sl .int)) c,.val (.sl .int) a,.val (.sl .int) b,.val .int w,.mk 14 9 .str ord,.val .str bk])]) ?_ ?_
  ·refine zAg ?_ ?_ ?_<;>simp only [push_cast,seval,reduceCtorEq,Int.cast_ofNat_Int]
   all_goals first|rfl|exact ⟨rfl,rfl⟩|trace_state
  replace hnl:=And.intro hnl0 (And.intro hS (And.intro hB (And.intro (eq_true hsz) hB3)))
  repeat' (first|(refine goK (by assumption) ?_; iterate 4 (try clear hK K))|(refine zAc fun K hK=>?_)|((first|refine zAa hE rfl ?_|refine zAh ?_); simp +contextual only [hnl,↓kN,↓kP,↓kG,↓qN,↓qP,↓qG,push_cast,seval,reduceCtorEq,Int.cast_ofNat_Int])|(refine zAj ?_; simp only [thenQ,zAi,if_true,if_false,Nat.reduceEqDiff,reduceCtorEq])|(refine zAe (by rfl) (fun hb=>?_) (fun hb=>?_)<;>(try simp only [bqa,bqb,bqc,bqd,reduceCtorEq,bqe,bqf] at hb)<;>(try omega))|fail)
  all_goals (rw [e1]; first|exact ⟨rfl,hB3.symm,rfl⟩|exact ⟨rfl,rfl,rfl⟩|trace_state)
@[push_cast] def zUZ:Con:=⟨[.dat (.sl (.sl .int)),.dat (.sl .str)],fun _=>True,fun _=>{res:=[.val .bool true]}⟩
set_option maxHeartbeats 8000000 in
theorem zQN:FnSpec Tryz.prog 6 zUZ:=by
 refine FnSpec.of_tri' (E:=know _ [] [] []) (zAl (kc zCL (kc zCX (kc zBB (kc zUY (kc zGB (kc zEN (kc zC3 (kc zD9 all_nil)))))))) all_nil all_nil) Tryz.func6 rfl rfl (by kernel_rfl) ?_
 intro C x hE hnl hfit hpre
 simp only [Tryz.ntmps6,Tryz.results6,maxLen,seval,push_cast] at hnl hfit hpre ⊢
 obtain ⟨(q:List (List Int)),(l:List ByteArray),_⟩:=x
 dsimp only at hfit hpre ⊢
 have hem:({data:=#[]}:ByteArray)=ByteArray.empty:=rfl
 have hnl0:=hnl
 by_cases he:zAs q=0
 rotate_left
 ·have e1:runE q l=zAs q:=if_neg he
  have e2:([]:List Int).length=0:=rfl
  replace hnl:=And.intro hnl (And.intro e1 (And.intro (eq_false he) (And.intro hem e2)))
  exact auA
 by_cases h60:60<(l.length:Int)
 ·have e1:runE q l=3:=by unfold runE; rw [if_pos he,if_pos h60]
  have e2:([]:List Int).length=0:=rfl
  replace hnl:=And.intro hnl (And.intro e1 (And.intro he (And.intro hem (And.intro e2 (eq_true h60)))))
  exact auA
 have e1:runE q l=0:=by unfold runE; rw [if_pos he,if_neg h60]
 have hin:=zAK he
 have htl:(esV (newH q) l).length=l.length:=zAZ _ _
 obtain ⟨bk0,hbk0⟩:∃ b,hBk (doAll (newH q) l)=b:=⟨_,rfl⟩
 replace hnl:=And.intro hnl (And.intro e1 (And.intro he (And.intro hem (And.intro htl (And.intro (eq_false h60) hbk0)))))
 repeat' (first|(refine goK (by assumption) ?_; iterate 4 (try clear hK K))|(refine zAc fun K hK=>?_)|((first|refine zAa hE rfl ?_|refine zAh ?_); simp +contextual only [hnl,↓kN,↓kP,↓kG,↓qN,↓qP,↓qG,push_cast,seval,reduceCtorEq,Int.cast_ofNat_Int])|refine zAd ?_|(refine zAf ?_; simp only [thenQ,zAi,if_true,if_false,Nat.reduceEqDiff,reduceCtorEq])|(refine zAe (by rfl) (fun hb=>?_) (fun hb=>?_)<;>(try simp only [bqa,bqb,bqc,bqd,reduceCtorEq,bqe,bqf] at hb)<;>(try omega))|(refine ⟨fun hc=>?_,fun hc=>?_⟩)|fail)
 refine zAk (fun (y:Nat×HX)=>AS.of [(1,.one (.val (.sl .str) l)),(5,.one (.val (.sl .int) (esV (newH q) l))),(6,.one (.val .str bk0)),(10,.one (.box 68)),(12,.I y.1)] [] [(68,.rcd [.raw (.int .i32 0),.raw (.int .u32 0),.val (.sl (.sl .int)) y.2.2.2.1,.val (.sl (.sl .int)) y.2.2.2.2.1,.val (.sl .int) y.2.2.2.2.2.1,.val (.sl .int) y.2.2.2.2.2.2.1,.val .int y.2.2.2.2.2.2.2.1,.mk 68 9 .str y.2.2.2.2.2.2.2.2.1,.val .str y.2.2.2.2.2.2.2.2.2.1])]) (fun y=>y.1≤l.length∧(∃ M,HL y.2 M)∧y.2=doAll (newH q) (l.take y.1)) (fun y=>l.length - y.1) (0,newH q) ⟨by omega,⟨[],HL.new hin⟩,rfl⟩ ?_ ?_
 ·refine zAg ?_ ?_ ?_<;>simp only [push_cast,seval,reduceCtorEq,Int.cast_ofNat_Int]
  all_goals first|rfl|exact ⟨rfl,rfl⟩|trace_state
 rintro ⟨k,h⟩ ⟨hk,⟨M,hM⟩,hy⟩ K' hL
 dsimp only at hk hM hy ⊢
 have h1:=hM.inv
 rcases Nat.lt_or_ge k l.length with hlt|hge
 rotate_left
 ·obtain rfl:k=l.length:=by omega
  rw [List.take_length] at hy
  rw [←hy] at hbk0
  have hsz:=h1.st.sz
  obtain ⟨⟨⟩,⟨⟩,(f:List (List Int)),(c:List (List Int)),(a:List Int),(b:List Int),(w:Int),(ord:List ByteArray),(bk:ByteArray),⟨⟩⟩:=h
  have hS:hSt ((),(),f,c,a,b,w,ord,bk,())=(c,a,b,w):=rfl
  have hB:hBk ((),(),f,c,a,b,w,ord,bk,())=bk:=rfl
  rw [hS] at hsz
  rw [hB] at hbk0
  subst hbk0
  dsimp only
  replace hnl:=And.intro hnl0 (And.intro hS (And.intro hB (eq_true hsz)))
  exact auA
 obtain ⟨M2,hM2⟩:=hM.dox (l.getD k ByteArray.empty)
 have hy2:=zGZ (newH q) l hlt
 rw [←hy] at hy2
 obtain ⟨e,hde⟩:∃ e,doE h (l.getD k ByteArray.empty)=e:=⟨_,rfl⟩
 have hge:(esV (newH q) l).getD k 0=e:=by
  unfold esV
  rw [zBD _ _ hlt,←hy]
  exact hde
 obtain ⟨⟨⟨⟩,⟨⟩,(f2:List (List Int)),(c2:List (List Int)),(a2:List Int),(b2:List Int),(w2:Int),(ord2:List ByteArray),(bk2:ByteArray),⟨⟩⟩,hh2⟩:∃ h2,doX h (l.getD k ByteArray.empty)=h2:=⟨_,rfl⟩
 rw [hh2] at hM2 hy2
 obtain ⟨⟨⟩,⟨⟩,(f:List (List Int)),(c:List (List Int)),(a:List Int),(b:List Int),(w:Int),(ord:List ByteArray),(bk:ByteArray),⟨⟩⟩:=h
 dsimp only
 replace hnl:=And.intro hnl0 (And.intro (eq_true h1) (And.intro hde (And.intro hge (And.intro hh2 htl))))
 repeat' (first|(refine goK (by assumption) ?_; iterate 4 (try clear hK K))|(refine zAc fun K hK=>?_)|(refine zAa hE rfl ?_; simp +contextual only [hnl,↓kN,↓kP,↓kG,↓qN,↓qP,↓qG,push_cast,seval,reduceCtorEq,Int.cast_ofNat_Int])|refine zAd ?_|(refine zAf ?_; simp only [thenQ,zAi,if_true,if_false,Nat.reduceEqDiff,reduceCtorEq])|(refine zAe (by rfl) (fun hb=>?_) (fun hb=>?_)<;>(try simp only [bqa,bqb,bqc,bqd,reduceCtorEq,bqe,bqf] at hb)<;>(try omega))|fail)
 clear hy
 refine zBE hE (fun D s=>s.env 1=.one (.val (.sl .str) l) ∧
  s.env 5=.one (.val (.sl .int) (esV (newH q) l)) ∧
  s.env 6=.one (.val .str bk0) ∧
  s.env 10=.one (.box 68) ∧
  s.env 12=.I k ∧
  (D 0=true→s.env 94=.one (.box 68)) ∧
  (D 1=true→s.env 95=.one (.val (.sl .str) l)) ∧
  (D 2=true→s.env 96=.I k) ∧
  (D 3=true→s.env 97=.one (.padr .str (l.getD k ByteArray.empty))) ∧
  (D 4=true→s.env 98=.one (.val .str (l.getD k ByteArray.empty))) ∧
  (D 5=true→s.env 99=.one (.val .int e)) ∧
  (D 6=true→s.env 100=.one (.val (.sl .int) (esV (newH q) l))) ∧
  (D 7=true→s.env 101=.I k) ∧
  (D 8=true→s.env 102=.one (.padr .int e)) ∧
  (D 9=true→s.env 103=.one (.val .int e)) ∧
  (D 10=true→s.env 104=.one (.val .bool false)) ∧
  (D 5=false→s.boxes 68=some (.rcd [.raw (.int .i32 0),.raw (.int .u32 0),.val (.sl (.sl .int)) f,.val (.sl (.sl .int)) c,.val (.sl .int) a,.val (.sl .int) b,.val .int w,.mk 68 9 .str ord,.val .str bk])) ∧
  (D 5=true→s.boxes 68=some (.rcd [.raw (.int .i32 0),.raw (.int .u32 0),.val (.sl (.sl .int)) f2,.val (.sl (.sl .int)) c2,.val (.sl .int) a2,.val (.sl .int) b2,.val .int w2,.mk 68 9 .str ord2,.val .str bk2]))) rfl (by kernel_rfl) ?_ ?_ ?_
 ·dsimp only
  simp only [push_cast,seval,reduceCtorEq,Int.cast_ofNat_Int]
 ·refine ⟨fun D s h0 hp hI=>?_,fun D s h0 hp hI=>?_,fun D s h0 hp hI=>?_,fun D s h0 hp hI=>?_,fun D s h0 hp hI=>?_,fun D s h0 hp hI=>?_,fun D s h0 hp hI=>?_,fun D s h0 hp hI=>?_,fun D s h0 hp hI=>?_,fun D s h0 hp hI=>?_,fun D s h0 hp hI=>?_,trivial⟩
  all_goals obtain ⟨E1,E5,E6,E10,E12,F0,F1,F2,F3,F4,F5,F6,F7,F8,F9,F10,B0,B1⟩:=hI
  all_goals (try simp [preds,Region.binds] at hp)
  all_goals (simp +contextual only [*,setD,↓kN,↓kP,↓kG,push_cast,seval,reduceCtorEq,Int.cast_ofNat_Int])
  all_goals first|omega|(refine And.intro ?_ ?_<;>omega)|rfl|skip
 intro D s hD hI
 obtain ⟨E1,E5,E6,E10,E12,F0,F1,F2,F3,F4,F5,F6,F7,F8,F9,F10,B0,B1⟩:=hI
 have v1:=B1 (hD 5 (by decide))
 have v2:=F10 (hD 10 (by decide))
 refine hK _ ?_
 refine zAo (t:=AS.of [(1,.one (.val (.sl .str) l)),(5,.one (.val (.sl .int) (esV (newH q) l))),(6,.one (.val .str bk0)),(10,.one (.box 68)),(12,.I k),(104,.one (.val .bool false))] [] [(68,.rcd [.raw (.int .i32 0),.raw (.int .u32 0),.val (.sl (.sl .int)) f2,.val (.sl (.sl .int)) c2,.val (.sl .int) a2,.val (.sl .int) b2,.val .int w2,.mk 68 9 .str ord2,.val .str bk2])]) ?_ ?_
 ·refine zAg ?_ ?_ ?_<;>simp only [E1,E5,E6,E10,E12,v1,v2,push_cast,seval,reduceCtorEq,Int.cast_ofNat_Int]
  all_goals first|exact ⟨_,rfl⟩|skip
 clear hK
 replace hnl:=hnl0
 repeat' (first|(refine goK (by assumption) ?_; iterate 4 (try clear hK K))|(refine zAa hE rfl ?_; simp +contextual only [hnl,↓kN,↓kP,↓kG,↓qN,↓qP,↓qG,push_cast,seval,reduceCtorEq,Int.cast_ofNat_Int])|(refine zAf ?_; simp only [thenQ,zAi,if_true,if_false,Nat.reduceEqDiff,reduceCtorEq])|(refine zAe (by rfl) (fun hb=>?_) (fun hb=>?_)<;>(try simp only [bqa,bqb,bqc,bqd,reduceCtorEq,bqe,bqf] at hb)<;>(try omega))|refine andS ?_|fail)
 refine hL _ (k+1,((),(),f2,c2,a2,b2,w2,ord2,bk2,())) ⟨by omega,⟨M2,hM2⟩,hy2.symm⟩ (by dsimp only; omega) ?_
 refine zAg ?_ ?_ ?_<;>simp only [push_cast,seval,reduceCtorEq,Int.cast_ofNat_Int]
end Go.Proofs.YtlgkplnifaoeeaaGreatDoor
