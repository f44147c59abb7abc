import Derived.Test.YtekfodeknpnkbaaGreatDoorT40
import Derived.Test.YtekfodeknpnkbaaGreatDoorT47
import Derived.Test.YtekfodeknpnkbaaGreatDoorT54
set_option linter.unusedSimpArgs false
set_option linter.unusedVariables false
namespace Go.Proofs.YtekfodeknpnkbaaGreatDoor
open Go.RowKit Go.VS Go.OT
def repR (x:RX):List Line→Nat→RX×Nat×Int
 | [],i=>(x,i,0)
 | y::L,i=>if rdoE x y.1=0 then (if rLs (rdoX x y.1)=y.2 then repR (rdoX x y.1) L (i+1) else (x,i,7)) else (x,i,rdoE x y.1)
theorem zXr:∀ (L:List Line) {h:HX} {x:RX} (i:Nat),HR h x→HR (repV h L i).1 (repR x L i).1∧(repV h L i).2=(repR x L i).2
 | [],h,x,i,q=>⟨q,rfl⟩
 | y::L,h,x,i,q=>by
  have hx:=q.doX y.1
  unfold repV repR
  rw [q.doE,hx.ls]
  split
  ·split
   ·exact zXr L (i+1) hx
   ·exact ⟨q,rfl⟩
  ·exact ⟨q,rfl⟩
end Go.Proofs.YtekfodeknpnkbaaGreatDoor
namespace Go.Proofs.YtekfodeknpnkbaaGreatDoor
open Go.RowKit Go.VS
theorem zOp {b:ByteArray} (h:zCk b=true):1≤(zA6 b).size∧(zA6 b).size≤30:=by
 unfold zCk at h
 simp only [Bool.and_eq_true,decide_eq_true_eq] at h
 omega
theorem zIN:∀ (n:Nat) (b:ByteArray) (s:Int),∀ y∈(zAL n b s).1,y.1.size≤30
 | 0,_,_,y,h=>by cases h
 | n+1,b,s,y,h=>by
  by_cases hk:nxOK b s=true
  ·rw [zEl hk] at h
   rcases List.mem_cons.1 h with rfl|h
   ·rw [nxOK,Bool.and_eq_true] at hk
    exact (zOp hk.1).2
   ·exact zIN n _ _ y h
  ·rw [zBr hk] at h
   cases h
def rpR (c:List (List Int)) (t:ByteArray):RX:=(repR (newR c) (rpL t) 0).1
end Go.Proofs.YtekfodeknpnkbaaGreatDoor
namespace Go.Proofs.YtekfodeknpnkbaaGreatDoor
open Go.RowKit Go.VS
theorem zYI {x:RX} {y:Line} {L:List Line} {i:Nat} (e:rdoE x y.1=0) (e2:rLs (rdoX x y.1)=y.2):repR x (y::L) i=repR (rdoX x y.1) L (i+1):=by
 show (if _ then _ else _)=_
 rw [if_pos e,if_pos e2]
theorem zYJ {x:RX} {y:Line} {L:List Line} {i:Nat} (e:rdoE x y.1=0) (e2:¬rLs (rdoX x y.1)=y.2):(repR x (y::L) i).2=(i,7):=by
 unfold repR
 rw [if_pos e,if_neg e2]
theorem zYH {x:RX} {y:Line} {L:List Line} {i:Nat} (e:¬rdoE x y.1=0):(repR x (y::L) i).2=(i,rdoE x y.1):=by
 unfold repR
 rw [if_neg e]
def rrE (c:List (List Int)) (t:ByteArray):Int:=if zAu c=0 then (if (zAL 60 t 0).2=ByteArray.empty then (repR (newR c) (rpL t) 0).2.2 else 11) else zAu c
def rrI (c:List (List Int)) (t:ByteArray):Int:=if zAu c=0 then (if (zAL 60 t 0).2=ByteArray.empty then ((repR (newR c) (rpL t) 0).2.1:Nat) else 0) else 0
@[push_cast] def zRL:Con:=⟨[.sdat (.sl (.sl .int)),.dat .str],fun (x:List (List Int)×ByteArray×Unit)=>x.2.1.size≤1000000,fun (x:List (List Int)×ByteArray×Unit) =>
 if rrE x.1 x.2.1=0 then {res:=[.obj ⟨rFs,rpR x.1 x.2.1⟩,.val .int (rrI x.1 x.2.1),.val .int 0]} else {res:=[.raw (.pointer none),.val .int (rrI x.1 x.2.1),.val .int (rrE x.1 x.2.1)]}⟩
set_option maxHeartbeats 8000000 in
theorem zM1:FnSpec Tryz.prog 26 zRL:=by
 refine FnSpec.of_tri' (E:=know _ [] [] []) (zAl (kc zIS (kc zRh (kc zLu all_nil))) all_nil all_nil) Tryz.func26 rfl rfl (by kernel_rfl) ?_
 intro C x hE hnl hfit hpre
 simp only [Tryz.ntmps26,Tryz.results26,maxLen,seval,push_cast] at hnl hfit hpre ⊢
 obtain ⟨(q:List (List Int)),(t:ByteArray),_⟩:=x
 dsimp only at hfit hpre ⊢
 have hem:({data:=#[]}:ByteArray)=ByteArray.empty:=rfl
 by_cases he:zAu q=0
 rotate_left
 ·have e1:rrE q t=zAu q:=if_neg he
  have e2:rrI q t=0:=if_neg he
  rw [e1,e2]
  replace hnl:=And.intro hnl (And.intro (eq_false he) hem)
  exact auA
 have hin:=zAR he
 have hll:=zEm 60 t 0
 have hlz:=zIN 60 t 0
 by_cases hr:(zAL 60 t 0).2=ByteArray.empty
 rotate_left
 ·have e1:rrE q t=11:=by unfold rrE; rw [if_pos he,if_neg hr]
  have e2:rrI q t=0:=by unfold rrI; rw [if_pos he,if_neg hr]
  rw [e1,e2]
  replace hnl:=And.intro hnl (And.intro he (And.intro hem (eq_false hr)))
  exact auA
 have e1:rrE q t=(repR (newR q) (rpL t) 0).2.2:=by unfold rrE; rw [if_pos he,if_pos hr]
 have e2:rrI q t=((repR (newR q) (rpL t) 0).2.1:Nat):=by unfold rrI; rw [if_pos he,if_pos hr]
 have e3:rpR q t=(repR (newR q) (rpL t) 0).1:=rfl
 rw [e1,e2,e3]
 have hL:(zAL 60 t 0).1=rpL t:=rfl
 rw [hL] at hll hlz
 obtain ⟨⟨rH,rI,rE⟩,hR⟩:∃ r,repR (newR q) (rpL t) 0=r:=⟨_,rfl⟩
 rw [hR]
 dsimp only
 clear e1 e2 e3
 generalize rpL t=L at hL hll hR hlz
 have hnl0:=hnl
 replace hnl:=And.intro hnl (And.intro he (And.intro hem (And.intro hr hL)))
 repeat' (first|(refine goK (by assumption) ?_; iterate 4 (try clear hK K))|(refine zAb fun K hK=>?_)|(refine zAa hE rfl ?_; simp +contextual only [hnl,↓kA,push_cast,seval,reduceCtorEq,cI])|refine zAd ?_|(refine zAg ?_; simp only [thenQ,zAh,if_true,if_false,Nat.reduceEqDiff,reduceCtorEq])|(refine zAe (by rfl) (fun hb=>?_) (fun hb=>?_)<;>(try simp only [bq,reduceCtorEq] at hb)<;>(try omega))|refine andS ?_|fail)
 refine zAk (fun (y:Nat×HX×RX)=>AS.of [(7,.one (.box 14)),(9,.one (.val (.sl (.prod .str .int)) L)),(11,.I y.1)] [] [(14,.rcd [.val (.sl (.sl .int)) y.2.2.1,.val (.sl .int) y.2.2.2.1,.val (.sl .int) y.2.2.2.2.1,.val .int y.2.2.2.2.2.1,.val .int y.2.2.2.2.2.2.1,.val (.sl (.prod .str .int)) y.2.2.2.2.2.2.2.1])]) (fun y=>y.1≤L.length∧HR y.2.1 y.2.2∧repR y.2.2 (L.drop y.1) y.1=(rH,rI,rE)) (fun y=>L.length - y.1) (0,newH q,newR q) ⟨by omega,HR.new hin,hR⟩ ?_ ?_
 ·refine zAf ?_ ?_ ?_<;>simp only [push_cast,seval,reduceCtorEq,cI]
  all_goals first|rfl|exact ⟨rfl,rfl⟩|trace_state
 rintro ⟨k,h,x⟩ ⟨hk,h1,hRk⟩ K' hLp
 dsimp only at hk h1 hRk ⊢
 clear he hr hL hR hin
 rcases Nat.lt_or_ge k L.length with hlt|hge
 rotate_left
 ·obtain rfl:k=L.length:=by omega
  rw [List.drop_length] at hRk
  injection hRk with r1 r2
  injection r2 with r2 r3
  subst r1
  subst r2
  subst r3
  obtain ⟨(rc:List (List Int)),(ra:List Int),(rb:List Int),(rw:Int),(rn:Int),(rl:List Line),⟨⟩⟩:=x
  dsimp only
  replace hnl:=hnl0
  exact auA
 rw [zS2 L (ByteArray.empty,0) hlt] at hRk
 have hsy:=hlz _ (zAJ (ByteArray.empty,0) hlt)
 obtain ⟨y,hy⟩:∃ y,L.getD k (ByteArray.empty,0)=y:=⟨_,rfl⟩
 rw [hy] at hRk hsy
 obtain ⟨t,u⟩:=y
 have hsy':t.size≤30:=hsy
 have h2:=h1.rinv
 obtain ⟨e,he⟩:∃ e,rdoE x t=e:=⟨_,rfl⟩
 by_cases e0:e=0
 rotate_left
 ·have hr2:=zYH (x:=x) (y:=(t,u)) (L:=L.drop (k+1)) (i:=k) (by rw [he]; exact e0)
  rw [hRk] at hr2
  injection hr2 with r1 r2
  rw [he] at r2
  replace r1:=r1.symm
  subst r1
  subst r2
  obtain ⟨⟨(rc2:List (List Int)),(ra2:List Int),(rb2:List Int),(rw2:Int),(rn2:Int),(rl2:List Line),⟨⟩⟩,hx2⟩:∃ x2,rdoX x t=x2:=⟨_,rfl⟩
  obtain ⟨(rc:List (List Int)),(ra:List Int),(rb:List Int),(rw:Int),(rn:Int),(rl:List Line),⟨⟩⟩:=x
  dsimp only
  replace hnl:=And.intro hnl0 (And.intro (eq_true h2) (And.intro hy (And.intro he (And.intro hx2 (eq_false e0)))))
  exact auB
 subst e0
 have h3:=h1.doX t
 obtain ⟨v,hv⟩:∃ v,rLs (rdoX x t)=v:=⟨_,rfl⟩
 have hgo:v=u→repR (rdoX x t) (L.drop (k+1)) (k+1)=(rH,rI,rE):=fun ev=>by rw [←hRk]; exact (zYI (y:=(t,u)) he (by rw [hv]; exact ev)).symm
 have hpr:¬v=u→rI=k∧rE=7:=fun ev=>by
  have hr2:=zYJ (x:=x) (y:=(t,u)) (L:=L.drop (k+1)) (i:=k) he (by rw [hv]; exact ev)
  rw [hRk] at hr2
  injection hr2 with r1 r2
  exact ⟨r1,r2⟩
 obtain ⟨⟨(rc2:List (List Int)),(ra2:List Int),(rb2:List Int),(rw2:Int),(rn2:Int),(rl2:List Line),⟨⟩⟩,hx2⟩:∃ x2,rdoX x t=x2:=⟨_,rfl⟩
 rw [hx2] at h3 hv hgo
 obtain ⟨(rc:List (List Int)),(ra:List Int),(rb:List Int),(rw:Int),(rn:Int),(rl:List Line),⟨⟩⟩:=x
 dsimp only
 have hv':rn2=v:=hv
 subst hv'
 replace hnl:=And.intro hnl0 (And.intro (eq_true h2) (And.intro hy (And.intro he hx2)))
 by_cases ev:rn2=u
 ·replace hnl:=And.intro hnl (eq_true ev)
  repeat' (first|(refine goK (by assumption) ?_; iterate 4 (try clear hK K))|(refine zAb fun K hK=>?_)|((first|refine zAa hE rfl ?_|((first|refine zAc hE 1 rfl rfl (by kernel_rfl) ?_|refine zAc hE 2 rfl rfl (by kernel_rfl) ?_|refine zAc hE 3 rfl rfl (by kernel_rfl) ?_|refine zAc hE 4 rfl rfl (by kernel_rfl) ?_); simp only [List.length_cons,List.length_nil,Nat.reduceAdd,Nat.reduceSub,List.take_succ_cons,List.take_zero,List.drop_succ_cons,List.drop_zero])); simp +contextual only [hnl,↓kA,push_cast,seval,reduceCtorEq,cI])|refine zAd ?_|(refine zAg ?_; simp only [thenQ,zAh,if_true,if_false,Nat.reduceEqDiff,reduceCtorEq])|(refine zAe (by rfl) (fun hb=>?_) (fun hb=>?_)<;>(try simp only [bq,reduceCtorEq] at hb)<;>(try omega))|refine andS ?_|fail)
  refine hLp _ (k+1,doX h t,(rc2,ra2,rb2,rw2,rn2,rl2,())) ⟨by omega,h3,hgo ev⟩ (by dsimp only; omega) ?_
  refine zAf ?_ ?_ ?_<;>simp only [push_cast,seval,reduceCtorEq,cI]
 ·obtain ⟨r1,r2⟩:=hpr ev
  replace r1:=r1.symm
  subst r1
  subst r2
  replace hnl:=And.intro hnl (eq_false ev)
  exact auB
theorem rr_eq (c:List (List Int)) (t:ByteArray):rrE c t=rpE c t∧rrI c t=rpI c t∧(rpE c t=0→HR (rpH c t) (rpR c t)):=by
 unfold rrE rpE rrI rpI
 by_cases he:zAu c=0
 ·have q:=zXr (rpL t) 0 (HR.new (zAR he))
  rw [if_pos he,if_pos he,if_pos he,if_pos he]
  by_cases hr:(zAL 60 t 0).2=ByteArray.empty
  ·rw [if_pos hr,if_pos hr,if_pos hr,if_pos hr,q.2]
   exact ⟨rfl,rfl,fun _=>q.1⟩
  ·rw [if_neg hr,if_neg hr,if_neg hr,if_neg hr]
   exact ⟨rfl,rfl,fun h=>by omega⟩
 ·rw [if_neg he,if_neg he,if_neg he,if_neg he]
  exact ⟨rfl,rfl,fun h=>absurd h he⟩
@[push_cast] def zOH:Con:=⟨[.dat (.sl (.sl .int)),.dat .str],fun _=>True,fun _=>{res:=[.val .bool true]}⟩
set_option maxHeartbeats 4000000 in
theorem zLy:FnSpec Tryz.prog 5 zOH:=by
 refine FnSpec.of_tri' (E:=know _ [] [] []) (zAl (kc zDg (kc zBU (kc zES (kc zM1 (kc zDK all_nil))))) all_nil all_nil) Tryz.func5 rfl rfl (by kernel_rfl) ?_
 intro C x hE hnl hfit hpre
 simp only [Tryz.ntmps5,Tryz.results5,maxLen,seval,push_cast] at hnl hfit hpre ⊢
 obtain ⟨(q:List (List Int)),(t:ByteArray),_⟩:=x
 dsimp only at hfit hpre ⊢
 obtain ⟨r1,r2,r3⟩:=rr_eq q t
 by_cases he:rpE q t=0
 ·replace r3:=r3 he
  have hH:HR (rpH q t) (rpR q t):=r3
  rw [he] at r1
  replace hnl:=And.intro hnl (And.intro r1 (And.intro r2 (And.intro he (eq_true hH))))
  exact auA
 ·replace hnl:=And.intro hnl (And.intro r1 (And.intro r2 (eq_false he)))
  exact auA
end Go.Proofs.YtekfodeknpnkbaaGreatDoor
