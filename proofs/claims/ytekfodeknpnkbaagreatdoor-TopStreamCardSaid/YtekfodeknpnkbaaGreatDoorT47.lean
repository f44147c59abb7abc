import Derived.Test.YtekfodeknpnkbaaGreatDoorT35
import Derived.Test.YtekfodeknpnkbaaGreatDoorT42
set_option linter.unusedSimpArgs false
set_option linter.unusedVariables false
namespace Go.Proofs.YtekfodeknpnkbaaGreatDoor
open Go.RowKit Go.VS
theorem zEm:∀ (n:Nat) (b:ByteArray) (s:Int),(zAL n b s).1.length≤n
 | 0,_,_=>Nat.le_refl _
 | n+1,b,s=>by
  by_cases h:nxOK b s=true
  ·rw [zEl h]
   have:=zEm n (rcut2 b 10) (nxSum b s)
   simp only [List.length_cons]
   omega
  ·rw [zBr h]
   exact Nat.zero_le _
end Go.Proofs.YtekfodeknpnkbaaGreatDoor
namespace Go.Proofs.YtekfodeknpnkbaaGreatDoor
open Go.RowKit Go.VS
theorem zGo {α β:Type} (f:α→β) (l:List α) (i:Nat) (d:α):(l.map f).getD i (f d)=f (l.getD i d):=by
 rw [List.getD_eq_getElem?_getD,List.getD_eq_getElem?_getD,List.getElem?_map]
 cases l[i]?<;>rfl
end Go.Proofs.YtekfodeknpnkbaaGreatDoor
namespace Go.Proofs.YtekfodeknpnkbaaGreatDoor
open Go.RowKit Go.VS
def rpL (t:ByteArray):List Line:=(zAL 60 t 0).1
def rpE (c:List (List Int)) (t:ByteArray):Int:=if zAu c=0 then (if (zAL 60 t 0).2=ByteArray.empty then (repV (newH c) (rpL t) 0).2.2 else 11) else zAu c
def rpI (c:List (List Int)) (t:ByteArray):Int:=if zAu c=0 then (if (zAL 60 t 0).2=ByteArray.empty then ((repV (newH c) (rpL t) 0).2.1:Nat) else 0) else 0
def rpH (c:List (List Int)) (t:ByteArray):HX:=(repV (newH c) (rpL t) 0).1
@[push_cast] def zMW:Con:=⟨[.sdat (.sl (.sl .int)),.dat .str],fun (x:List (List Int)×ByteArray×Unit)=>x.2.1.size≤1000000,fun (x:List (List Int)×ByteArray×Unit) =>
 if rpE x.1 x.2.1=0 then {res:=[.obj ⟨hFs,rpH x.1 x.2.1⟩,.val .int (rpI x.1 x.2.1),.val .int 0]} else {res:=[.raw (.pointer none),.val .int (rpI x.1 x.2.1),.val .int (rpE x.1 x.2.1)]}⟩
theorem zS2 {α:Type} (L:List α) (d:α) {i:Nat} (h:i<L.length):L.drop i=L.getD i d::L.drop (i+1):=by
 rw [List.drop_eq_getElem_cons h,List.getD_eq_getElem?_getD,List.getElem?_eq_getElem h]
 rfl
theorem zWH (h:HX) (i:Nat):repV h [] i=(h,i,0):=rfl
theorem zYL {h:HX} {y:Line} {L:List Line} {i:Nat} (e:doE h y.1=0) (e2:lst (hSt (doX h y.1))=y.2):repV h (y::L) i=repV (doX h y.1) L (i+1):=by
 show (if _ then _ else _)=_
 rw [if_pos e,if_pos e2]
theorem zYM {h:HX} {y:Line} {L:List Line} {i:Nat} (e:doE h y.1=0) (e2:¬lst (hSt (doX h y.1))=y.2):(repV h (y::L) i).2=(i,7):=by
 unfold repV
 rw [if_pos e,if_neg e2]
theorem zYK {h:HX} {y:Line} {L:List Line} {i:Nat} (e:¬doE h y.1=0):(repV h (y::L) i).2=(i,doE h y.1):=by
 unfold repV
 rw [if_neg e]
set_option maxHeartbeats 8000000 in
theorem zES:FnSpec Tryz.prog 25 zMW:=by
 refine FnSpec.of_tri' (E:=know _ [] [] []) (zAl (kc zEO (kc zGQ (kc zC2 (kc zB7 all_nil)))) all_nil all_nil) Tryz.func25 rfl rfl (by kernel_rfl) ?_
 intro C x hE hnl hfit hpre
 simp only [Tryz.ntmps25,Tryz.results25,maxLen,seval,push_cast] at hnl hfit hpre ⊢
 obtain ⟨(q:List (List Int)),(t:ByteArray),_⟩:=x
 dsimp only at hfit hpre ⊢
 have hem:({data:=#[]}:ByteArray)=ByteArray.empty:=rfl
 by_cases he:zAu q=0
 rotate_left
 ·have e1:rpE q t=zAu q:=if_neg he
  have e2:rpI q t=0:=if_neg he
  rw [e1,e2]
  replace hnl:=And.intro hnl (And.intro (eq_false he) hem)
  exact auA
 have hin:=zAR he
 have hll:=zEm 60 t 0
 by_cases hr:(zAL 60 t 0).2=ByteArray.empty
 rotate_left
 ·have e1:rpE q t=11:=by unfold rpE; rw [if_pos he,if_neg hr]
  have e2:rpI q t=0:=by unfold rpI; rw [if_pos he,if_neg hr]
  rw [e1,e2]
  replace hnl:=And.intro hnl (And.intro he (And.intro hem (eq_false hr)))
  exact auA
 have e1:rpE q t=(repV (newH q) (rpL t) 0).2.2:=by unfold rpE; rw [if_pos he,if_pos hr]
 have e2:rpI q t=((repV (newH q) (rpL t) 0).2.1:Nat):=by unfold rpI; rw [if_pos he,if_pos hr]
 have e3:rpH q t=(repV (newH q) (rpL t) 0).1:=rfl
 rw [e1,e2,e3]
 have hL:(zAL 60 t 0).1=rpL t:=rfl
 rw [hL] at hll
 obtain ⟨⟨rH,rI,rE⟩,hR⟩:∃ r,repV (newH q) (rpL t) 0=r:=⟨_,rfl⟩
 rw [hR]
 dsimp only
 clear e1 e2 e3
 generalize rpL t=L at hL hll hR
 have hl1:(L.map Prod.fst).length=L.length:=List.length_map ..
 have hl2:(L.map Prod.snd).length=L.length:=List.length_map ..
 have hnl0:=hnl
 replace hnl:=And.intro hnl (And.intro he (And.intro hem (And.intro hr (And.intro hL hl1))))
 repeat' (first|(refine goK (by assumption) ?_; iterate 4 (try clear hK K))|(refine zAb fun K hK=>?_)|(refine zAa hE rfl ?_; simp +contextual only [hnl,↓kA,push_cast,seval,reduceCtorEq,cI])|refine zAd ?_|(refine zAg ?_; simp only [thenQ,zAh,if_true,if_false,Nat.reduceEqDiff,reduceCtorEq])|(refine zAe (by rfl) (fun hb=>?_) (fun hb=>?_)<;>(try simp only [bq,reduceCtorEq] at hb)<;>(try omega))|refine andS ?_|fail)
 refine zAk (fun (y:Nat×HX)=>AS.of [(7,.one (.box 17)),(9,.one (.val (.sl .str) (L.map Prod.fst))),(10,.one (.val (.sl .int) (L.map Prod.snd))),(31,.one (.val (.sl .str) (L.map Prod.fst))),(32,.I L.length),(33,.I y.1)] [] [(17,.rcd [.raw (.int .i32 0),.raw (.int .u32 0),.val (.sl (.sl .int)) y.2.2.2.1,.val (.sl (.sl .int)) y.2.2.2.2.1,.val (.sl .int) y.2.2.2.2.2.1,.val (.sl .int) y.2.2.2.2.2.2.1,.val .int y.2.2.2.2.2.2.2.1,.mk 17 9 .str y.2.2.2.2.2.2.2.2.1,.val .str y.2.2.2.2.2.2.2.2.2.1])]) (fun y=>y.1≤L.length∧HInv y.2∧repV y.2 (L.drop y.1) y.1=(rH,rI,rE)) (fun y=>L.length - y.1) (0,newH q) ⟨by omega,zLj hin,hR⟩ ?_ ?_
 ·refine zAf ?_ ?_ ?_<;>simp only [push_cast,seval,reduceCtorEq,cI]
  all_goals first|rfl|exact ⟨rfl,rfl⟩|trace_state
 rintro ⟨k,h⟩ ⟨hk,h1,hRk⟩ K' hLp
 dsimp only at hk h1 hRk ⊢
 clear he hr hL hR hin
 rcases Nat.lt_or_ge k L.length with hlt|hge
 rotate_left
 ·obtain rfl:k=L.length:=by omega
  rw [List.drop_length,zWH] at hRk
  injection hRk with r1 r2
  injection r2 with r2 r3
  subst r1
  subst r2
  subst r3
  obtain ⟨⟨⟩,⟨⟩,(f:List (List Int)),(c:List (List Int)),(a:List Int),(b:List Int),(w:Int),(ord:List ByteArray),(bk:ByteArray),⟨⟩⟩:=h
  dsimp only
  replace hnl:=And.intro hnl0 hl1
  exact auA
 rw [zS2 L (ByteArray.empty,0) hlt] at hRk
 have hy1:(L.map Prod.fst).getD k ByteArray.empty=(L.getD k (ByteArray.empty,0)).1:=zGo Prod.fst L k (ByteArray.empty,0)
 have hy2:(L.map Prod.snd).getD k 0=(L.getD k (ByteArray.empty,0)).2:=zGo Prod.snd L k (ByteArray.empty,0)
 generalize L.getD k (ByteArray.empty,0)=y at hRk hy1 hy2
 obtain ⟨t,u⟩:=y
 dsimp only at hy1 hy2
 obtain ⟨e,he⟩:∃ e,doE h t=e:=⟨_,rfl⟩
 by_cases e0:e=0
 rotate_left
 ·have hr2:=zYK (h:=h) (y:=(t,u)) (L:=L.drop (k+1)) (i:=k) (by rw [he]; exact e0)
  rw [hRk] at hr2
  injection hr2 with r1 r2
  rw [he] at r2
  subst r1
  subst r2
  obtain ⟨⟨⟨⟩,⟨⟩,(f2:List (List Int)),(c2:List (List Int)),(a2:List Int),(b2:List Int),(w2:Int),(ord2:List ByteArray),(bk2:ByteArray),⟨⟩⟩,hh2⟩:∃ h2,doX h t=h2:=⟨_,rfl⟩
  obtain ⟨⟨⟩,⟨⟩,(f:List (List Int)),(c:List (List Int)),(a:List Int),(b:List Int),(w:Int),(ord:List ByteArray),(bk:ByteArray),⟨⟩⟩:=h
  dsimp only
  replace hnl:=And.intro hnl0 (And.intro (eq_true h1) (And.intro hy1 (And.intro he (And.intro hh2 (And.intro hl1 (eq_false e0))))))
  exact auA
 subst e0
 have h2:=zNY h1 t
 obtain ⟨v,hv⟩:∃ v,lst (hSt (doX h t))=v:=⟨_,rfl⟩
 have hsz:StateSz (hSt (doX h t)):=h2.st.sz
 have hgo:v=u→repV (doX h t) (L.drop (k+1)) (k+1)=(rH,rI,rE):=fun ev=>by rw [←hRk]; exact (zYL (y:=(t,u)) he (by rw [hv]; exact ev)).symm
 have hpr:¬v=u→rI=k∧rE=7:=fun ev=>by
  have hr2:=zYM (h:=h) (y:=(t,u)) (L:=L.drop (k+1)) (i:=k) he (by rw [hv]; exact ev)
  rw [hRk] at hr2
  injection hr2 with r1 r2
  exact ⟨r1,r2⟩
 obtain ⟨⟨⟨⟩,⟨⟩,(f2:List (List Int)),(c2:List (List Int)),(a2:List Int),(b2:List Int),(w2:Int),(ord2:List ByteArray),(bk2:ByteArray),⟨⟩⟩,hh2⟩:∃ h2,doX h t=h2:=⟨_,rfl⟩
 rw [hh2] at h2 hv hsz hgo
 obtain ⟨⟨⟩,⟨⟩,(f:List (List Int)),(c:List (List Int)),(a:List Int),(b:List Int),(w:Int),(ord:List ByteArray),(bk:ByteArray),⟨⟩⟩:=h
 dsimp only
 have hS:hSt ((),(),f2,c2,a2,b2,w2,ord2,bk2,())=(c2,a2,b2,w2):=rfl
 rw [hS] at hsz hv
 have hv':zA9 a2 b2 c2 w2=v:=hv
 replace hnl:=And.intro hnl0 (And.intro (eq_true h1) (And.intro hy1 (And.intro hy2 (And.intro he (And.intro hh2 (And.intro hl1 (And.intro hl2 (And.intro (eq_true hsz) hv'))))))))
 by_cases ev:v=u
 ·replace hnl:=And.intro hnl ev
  repeat' (first|(refine goK (by assumption) ?_; iterate 4 (try clear hK K))|(refine zAb fun K hK=>?_)|(refine zAa hE rfl ?_; simp +contextual only [hnl,↓kA,push_cast,seval,reduceCtorEq,cI])|refine zAd ?_|(refine zAg ?_; simp only [thenQ,zAh,if_true,if_false,Nat.reduceEqDiff,reduceCtorEq])|(refine zAe (by rfl) (fun hb=>?_) (fun hb=>?_)<;>(try simp only [bq,reduceCtorEq] at hb)<;>(try omega))|refine andS ?_|fail)
  refine zBL hE (fun D s=>s.env 7=.one (.box 17) ∧
   s.env 9=.one (.val (.sl .str) (L.map Prod.fst)) ∧
   s.env 10=.one (.val (.sl .int) (L.map Prod.snd)) ∧
   s.env 12=.I k ∧
   s.env 31=.one (.val (.sl .str) (L.map Prod.fst)) ∧
   s.env 32=.I L.length ∧
   s.env 33=.I k ∧
   s.boxes 17=some (.rcd [.raw (.int .i32 0),.raw (.int .u32 0),.val (.sl (.sl .int)) f2,.val (.sl (.sl .int)) c2,.val (.sl .int) a2,.val (.sl .int) b2,.val .int w2,.mk 17 9 .str ord2,.val .str bk2]) ∧
   (D 0=true→s.env 45=.one (.box 17)) ∧
   (D 1=true→s.env 46=.one (.val .int v)) ∧
   (D 2=true→s.env 47=.one (.val (.sl .int) (L.map Prod.snd))) ∧
   (D 3=true→s.env 48=.I k) ∧
   (D 4=true→s.env 49=.one (.padr .int (((L.map Prod.snd)).getD k 0))) ∧
   (D 5=true→s.env 50=.one (.val .int (((L.map Prod.snd)).getD k 0))) ∧
   (D 6=true→s.env 51=.one (.val .bool false))) rfl (by kernel_rfl) ?_ ?_ ?_
  ·dsimp only
   simp only [push_cast,seval,reduceCtorEq,cI]
  ·refine ⟨fun D s h0 hp hI=>?_,fun D s h0 hp hI=>?_,fun D s h0 hp hI=>?_,fun D s h0 hp hI=>?_,fun D s h0 hp hI=>?_,fun D s h0 hp hI=>?_,fun D s h0 hp hI=>?_,trivial⟩
   all_goals obtain ⟨E7,E9,E10,E12,E31,E32,E33,B0,F0,F1,F2,F3,F4,F5,F6⟩:=hI
   all_goals (try simp [preds,Region.binds] at hp)
   all_goals (simp +contextual only [*,setD,hSt,lst,↓kN,↓kP,↓kG,push_cast,seval,reduceCtorEq,cI])
   all_goals first|omega|(refine And.intro ?_ ?_<;>omega)|rfl|skip
  intro D s hD hI
  obtain ⟨E7,E9,E10,E12,E31,E32,E33,B0,F0,F1,F2,F3,F4,F5,F6⟩:=hI
  have v1:=F6 (hD 6 (by decide))
  refine hK _ ?_
  refine zAo (t:=AS.of [(7,.one (.box 17)),(9,.one (.val (.sl .str) (L.map Prod.fst))),(10,.one (.val (.sl .int) (L.map Prod.snd))),(12,.I k),(31,.one (.val (.sl .str) (L.map Prod.fst))),(32,.I L.length),(33,.I k),(51,.one (.val .bool false))] [] [(17,.rcd [.raw (.int .i32 0),.raw (.int .u32 0),.val (.sl (.sl .int)) f2,.val (.sl (.sl .int)) c2,.val (.sl .int) a2,.val (.sl .int) b2,.val .int w2,.mk 17 9 .str ord2,.val .str bk2])]) ?_ ?_
  ·refine zAf ?_ ?_ ?_<;>simp only [E7,E9,E10,E12,E31,E32,E33,B0,v1,push_cast,seval,reduceCtorEq,cI]
   all_goals first|exact ⟨_,rfl⟩|skip
  clear hK
  replace hnl:=hnl0
  repeat' (first|(refine goK (by assumption) ?_; iterate 4 (try clear hK K))|(refine zAa hE rfl ?_; simp +contextual only [hnl,↓kA,push_cast,seval,reduceCtorEq,cI])|(refine zAg ?_; simp only [thenQ,zAh,if_true,if_false,Nat.reduceEqDiff,reduceCtorEq])|(refine zAe (by rfl) (fun hb=>?_) (fun hb=>?_)<;>(try simp only [bq,reduceCtorEq] at hb)<;>(try omega))|refine andS ?_|fail)
  refine hLp _ (k+1,((),(),f2,c2,a2,b2,w2,ord2,bk2,())) ⟨by omega,h2,hgo ev⟩ (by dsimp only; omega) ?_
  refine zAf ?_ ?_ ?_<;>simp only [push_cast,seval,reduceCtorEq,cI]
 ·obtain ⟨r1,r2⟩:=hpr ev
  replace r1:=r1.symm
  subst r1
  subst r2
  replace hnl:=And.intro hnl (eq_false ev)
  repeat' (first|(refine goK (by assumption) ?_; iterate 4 (try clear hK K))|(refine zAb fun K hK=>?_)|(refine zAa hE rfl ?_; simp +contextual only [hnl,↓kA,push_cast,seval,reduceCtorEq,cI])|refine zAd ?_|(refine zAg ?_; simp only [thenQ,zAh,if_true,if_false,Nat.reduceEqDiff,reduceCtorEq])|(refine zAe (by rfl) (fun hb=>?_) (fun hb=>?_)<;>(try simp only [bq,reduceCtorEq] at hb)<;>(try omega))|refine andS ?_|fail)
  refine zBL hE (fun D s=>s.env 7=.one (.box 17) ∧
   s.env 9=.one (.val (.sl .str) (L.map Prod.fst)) ∧
   s.env 10=.one (.val (.sl .int) (L.map Prod.snd)) ∧
   s.env 12=.I k ∧
   s.env 31=.one (.val (.sl .str) (L.map Prod.fst)) ∧
   s.env 32=.I L.length ∧
   s.env 33=.I k ∧
   s.boxes 17=some (.rcd [.raw (.int .i32 0),.raw (.int .u32 0),.val (.sl (.sl .int)) f2,.val (.sl (.sl .int)) c2,.val (.sl .int) a2,.val (.sl .int) b2,.val .int w2,.mk 17 9 .str ord2,.val .str bk2]) ∧
   (D 0=true→s.env 45=.one (.box 17)) ∧
   (D 1=true→s.env 46=.one (.val .int v)) ∧
   (D 2=true→s.env 47=.one (.val (.sl .int) (L.map Prod.snd))) ∧
   (D 3=true→s.env 48=.I k) ∧
   (D 4=true→s.env 49=.one (.padr .int (((L.map Prod.snd)).getD k 0))) ∧
   (D 5=true→s.env 50=.one (.val .int (((L.map Prod.snd)).getD k 0))) ∧
   (D 6=true→s.env 51=.one (.val .bool true))) rfl (by kernel_rfl) ?_ ?_ ?_
  ·dsimp only
   simp only [push_cast,seval,reduceCtorEq,cI]
  ·refine ⟨fun D s h0 hp hI=>?_,fun D s h0 hp hI=>?_,fun D s h0 hp hI=>?_,fun D s h0 hp hI=>?_,fun D s h0 hp hI=>?_,fun D s h0 hp hI=>?_,fun D s h0 hp hI=>?_,trivial⟩
   all_goals obtain ⟨E7,E9,E10,E12,E31,E32,E33,B0,F0,F1,F2,F3,F4,F5,F6⟩:=hI
   all_goals (try simp [preds,Region.binds] at hp)
   all_goals (simp +contextual only [*,setD,hSt,lst,↓kN,↓kP,↓kG,push_cast,seval,reduceCtorEq,cI])
   all_goals first|omega|(refine And.intro ?_ ?_<;>omega)|rfl|skip
  intro D s hD hI
  obtain ⟨E7,E9,E10,E12,E31,E32,E33,B0,F0,F1,F2,F3,F4,F5,F6⟩:=hI
  have v1:=F6 (hD 6 (by decide))
  refine hK _ ?_
  refine zAo (t:=AS.of [(7,.one (.box 17)),(9,.one (.val (.sl .str) (L.map Prod.fst))),(10,.one (.val (.sl .int) (L.map Prod.snd))),(12,.I k),(31,.one (.val (.sl .str) (L.map Prod.fst))),(32,.I L.length),(33,.I k),(51,.one (.val .bool true))] [] [(17,.rcd [.raw (.int .i32 0),.raw (.int .u32 0),.val (.sl (.sl .int)) f2,.val (.sl (.sl .int)) c2,.val (.sl .int) a2,.val (.sl .int) b2,.val .int w2,.mk 17 9 .str ord2,.val .str bk2])]) ?_ ?_
  ·refine zAf ?_ ?_ ?_<;>simp only [E7,E9,E10,E12,E31,E32,E33,B0,v1,push_cast,seval,reduceCtorEq,cI]
   all_goals first|exact ⟨_,rfl⟩|skip
  clear hK
  replace hnl:=hnl0
  exact auA
end Go.Proofs.YtekfodeknpnkbaaGreatDoor
