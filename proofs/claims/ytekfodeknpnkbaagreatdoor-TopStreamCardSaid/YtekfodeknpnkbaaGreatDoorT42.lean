import Derived.Test.YtekfodeknpnkbaaGreatDoorT41
set_option linter.unusedSimpArgs false
set_option linter.unusedVariables false
namespace Go.Proofs.YtekfodeknpnkbaaGreatDoor
open Go.RowKit Go.VS
def langZ (fz:List Nat):Lang:={tab.lang with frz:=fun d=>fz.elem d}
def knowZ (fz:List Nat) (l:List (Nat×Con)):Know:={know l [] [] fz with G:=langZ fz}
theorem zVU (fz:List Nat):LangOK Tryz.prog (langZ fz):=by
 have h:=tabOK.lang
 exact ⟨h.info,h.agg,h.int,h.byte,h.bool,h.str,h.sl,h.plain,fun t f n off e=>⟨(h.fld t f n off e).ok⟩,h.fldO,h.fldT,h.pair,h.ones,h.fplain,h.mixed,h.fnT,h.ptrT,h.ifT,h.conc,h.uint,h.ob,h.mp,h.line⟩
theorem zPP {fz:List Nat} {l:List (Nat×Con)} (h1:∀ p∈l,FnSpec Tryz.prog p.1 p.2):KnowOK Tryz.prog (knowZ fz l):=by
 have h:=zAl (l:=l) (k:=[]) (r:=[]) (own:=fz) h1 all_nil all_nil
 exact ⟨zVU fz,h.con,h.clo,h.self⟩
section
variable (fz:List Nat) (l:List (Nat×Con)) (t f:Nat)
@[push_cast] theorem yAG:(knowZ fz l).G=langZ fz:=rfl
@[push_cast] theorem yAJ:(knowZ fz l).T f=lk none (l.map fun p=>(p.1,some p.2)) f:=rfl
@[push_cast] theorem yAH:(knowZ fz l).K f=none:=rfl
@[push_cast] theorem yAI:(knowZ fz l).R f=none:=rfl
@[push_cast] theorem zZV:(knowZ fz l).own=fz:=rfl
@[push_cast] theorem yAF:(langZ fz).sh t=tab.lang.sh t:=rfl
@[push_cast] theorem yAD:(langZ fz).el t=tab.lang.el t:=rfl
@[push_cast] theorem zYc:(langZ fz).plain t=tab.lang.plain t:=rfl
@[push_cast] theorem zZ0:(langZ fz).fld t f=tab.lang.fld t f:=rfl
@[push_cast] theorem zZa:(langZ fz).ones t=tab.lang.ones t:=rfl
@[push_cast] theorem zXg:(langZ fz).fplain t f=tab.lang.fplain t f:=rfl
@[push_cast] theorem zZ1:(langZ fz).fnT t=tab.lang.fnT t:=rfl
@[push_cast] theorem zZb:(langZ fz).ptrT t=tab.lang.ptrT t:=rfl
@[push_cast] theorem yAE:(langZ fz).ob t=tab.lang.ob t:=rfl
@[push_cast] theorem zZ2:(langZ fz).frz t=fz.elem t:=rfl
end
section
variable {C:Ctx} {γ:Gam} {s:AS} {a:Act} {w:World}
theorem zWk (h:Rel C γ s a w) {b off:Nat} {bs:List BV} (d:Nat) (e:TypeId) {sh:Sh} (hf:sh.flat=true) (hb:s.boxes b=some (.rcd bs)) (hi:bs[off]?=some .nils):Rel C γ (s.setBox b (.rcd (bs.set off (.mk d e sh [])))) a w:=by
 obtain ⟨cs,t,d1,d2,d3,d4,d5⟩:=h.boxes b _ hb
 obtain ⟨v,hv,hvr⟩:=zE5 bs cs.toList off _ d2 hi
 simp only [bvRep] at hvr
 subst hvr
 refine h.rebox ⟨cs,t,d1,?_,d3,d4,d5⟩
 have:=zCR _ _ off (.mk d e sh []) _ d2 ⟨hf,World.ownsRow_nil _ _ _ _,fun k hk=>by simp [Value.ownBlock] at hk⟩
 rw [zIf _ _ _ hv] at this
 exact this
theorem zW0 {N:Nat} {Q:Exit→AS→Prop} {c:Code} (d b off:Nat) (e:TypeId) {sh:Sh} {bs:List BV} (hf:sh.flat=true) (hb:s.boxes b=some (.rcd bs)) (hi:bs[off]?=some .nils) (h:tri C N c Q (s.setBox b (.rcd (bs.set off (.mk d e sh []))))):tri C N c Q s :=
 ⟨fun γ a w hR hN=>h.run γ a w (zWk hR d e hf hb hi) hN⟩
end
def newS (c:List (List Int)):State:=(c,List.replicate c.length (0:Int),List.replicate (c.getD 0 []).length (0:Int),(0:Int))
def newH (c:List (List Int)):HX:=mkH c (newS c) [] ByteArray.empty
@[push_cast] def yAh:Con:=⟨[.sdat (.sl (.sl .int))],fun _=>True,fun (x:List (List Int)×Unit)=>if zAu x.1=0 then {res:=[.obj ⟨hFs,newH x.1⟩,.val .int 0]} else {res:=[.raw (.pointer none),.val .int (zAu x.1)]}⟩
theorem zLk {c:List (List Int)} (h:InTab 0 99 c):HOK (newS c):=by
 refine ⟨h,List.length_replicate ..,List.length_replicate ..,fun i hi=>?_,fun i hi=>?_⟩
 ·rw [show (newS c).2.1.getD i 0=0 from ?_]; · omega
  simp only [newS,List.getD_eq_getElem?_getD,List.getElem?_replicate]
  split<;>rfl
 ·rw [show (newS c).2.2.1.getD i 0=0 from ?_]; · omega
  simp only [newS,List.getD_eq_getElem?_getD,List.getElem?_replicate]
  split<;>rfl
theorem zLj {c:List (List Int)} (h:InTab 0 99 c):HInv (newH c):=⟨zLk h,Nat.zero_le _,Nat.zero_le _⟩
set_option maxHeartbeats 8000000 in
theorem zEO:FnSpec Tryz.prog 27 yAh:=by
 refine FnSpec.of_tri' (E:=knowZ [14,19] [(42,zIu),(54,zEw)]) (zPP (all_cons zEq (all_cons stClone_spec all_nil))) Tryz.func27 rfl rfl (by kernel_rfl) ?_
 intro C x hE hnl hfit hpre
 simp only [Tryz.ntmps27,Tryz.results27,maxLen,seval,push_cast] at hnl hfit hpre ⊢
 obtain ⟨(c:List (List Int)),_⟩:=x
 dsimp only at hfit hpre ⊢
 by_cases he:zAu c=0
 rotate_left
 ·replace hnl:=And.intro hnl (eq_false he)
  exact auA
 have hin:=zAR he
 have hr:=hin.rows
 have hcl:1≤(c.getD 0 []).length∧(c.getD 0 []).length≤5:=hin.cols
 have hnl0:=hnl
 replace hnl:=And.intro hnl he
 refine zAb fun K hK0=>?_
 have hS:=Stop.mk hK0
 clear hK0
 repeat' (first|(refine zAa hE rfl ?_; simp +contextual only [hnl,↓kA,push_cast,seval,reduceCtorEq,cI])|fail)
 refine hS.h _ ?_
 clear hS K
 refine zAb fun K hK0=>?_
 have hS:=Stop.mk hK0
 clear hK0
 repeat' (first|(refine goK (by assumption) ?_; iterate 4 (try clear hK K))|(refine zAb fun K hK=>?_)|(refine zAa hE rfl ?_; simp +contextual only [hnl,↓kA,push_cast,seval,reduceCtorEq,cI])|(refine zAg ?_; simp only [thenQ,zAh,if_true,if_false,Nat.reduceEqDiff,reduceCtorEq])|(refine zAe (by rfl) (fun hb=>?_) (fun hb=>?_)<;>(try simp only [bq,reduceCtorEq] at hb)<;>(try omega))|fail)
 refine hS.h _ ?_
 clear hS K
 refine zAo (t:=AS.of [(0,.one (.val (.sl (.sl .int)) c))] [] []) ?_ ?_
 ·refine zAf ?_ ?_ ?_<;>simp only [push_cast,seval,reduceCtorEq,cI]
 have hszA:StateSz (c,List.replicate c.length (0:Int),List.replicate (c.getD 0 []).length (0:Int),(0:Int)):=(zLk hin).sz
 replace hnl:=And.intro hnl (eq_true hszA)
 refine zAb fun K hK=>?_
 refine zBL hE (fun D s=>(D 12=true→D 11=true) ∧
  s.env 0=.one (.val (.sl (.sl .int)) c) ∧
  (D 0=true→s.env 11=.one (.val (.sl (.sl .int)) c)) ∧
  (D 1=true→s.env 12=.one (.val (.sl (.sl .int)) c)) ∧
  (D 2=true→s.env 13=.I (c.length:Nat)) ∧
  (D 3=true→s.env 14=.one (.val (.sl .int) (List.replicate c.length (0:Int)))) ∧
  (D 4=true→s.env 15=.one (.val (.sl (.sl .int)) c)) ∧
  (D 5=true→s.env 16=.one (.padr (.sl .int) (c.getD 0 []))) ∧
  (D 6=true→s.env 17=.one (.val (.sl .int) (c.getD 0 []))) ∧
  (D 7=true→s.env 18=.I ((c.getD 0 []).length:Nat)) ∧
  (D 8=true→s.env 19=.one (.val (.sl .int) (List.replicate (c.getD 0 []).length (0:Int)))) ∧
  (D 9=true→s.env 20=.one (.val stSh (c,List.replicate c.length (0:Int),List.replicate (c.getD 0 []).length (0:Int),(0:Int)))) ∧
  (D 10=true→s.env 21=.one (.val stSh (c,List.replicate c.length (0:Int),List.replicate (c.getD 0 []).length (0:Int),(0:Int)))) ∧
  (D 11=true→s.env 5=.one (.box 5)) ∧
  (D 11=true→D 12=false→s.boxes 5=some (.rcd [.nils,.nils,.nils,.val .int 0])) ∧
  (D 12=true→s.boxes 5=some (.one (.val stSh (c,List.replicate c.length (0:Int),List.replicate (c.getD 0 []).length (0:Int),(0:Int)))))) rfl (by kernel_rfl) ?_ ?_ ?_
 ·dsimp only
  simp only [push_cast,seval,reduceCtorEq,cI]
 ·refine ⟨fun D s h0 hp hI=>?_,fun D s h0 hp hI=>?_,fun D s h0 hp hI=>?_,fun D s h0 hp hI=>?_,fun D s h0 hp hI=>?_,fun D s h0 hp hI=>?_,fun D s h0 hp hI=>?_,fun D s h0 hp hI=>?_,fun D s h0 hp hI=>?_,fun D s h0 hp hI=>?_,fun D s h0 hp hI=>?_,fun D s h0 hp hI=>?_,fun D s h0 hp hI=>?_,trivial⟩
  all_goals obtain ⟨o1,e0,f0,f1,f2,f3,f4,f5,f6,f7,f8,f9,f10,f11,g11,f12⟩:=hI
  all_goals replace hp:=List.all_eq_true.1 hp
  ·simp +contextual only [hnl,h0,o1,e0,f0,f1,f2,f3,f4,f5,f6,f7,f8,f9,f10,f11,g11,f12,setD,↓kN,↓kP,push_cast,seval,reduceCtorEq,cI]
  ·simp +contextual only [hnl,h0,o1,e0,f0,f1,f2,f3,f4,f5,f6,f7,f8,f9,f10,f11,g11,f12,setD,↓kN,↓kP,push_cast,seval,reduceCtorEq,cI]
  ·have d1:=hp 1 (by decide)
   simp +contextual only [d1,hnl,h0,o1,e0,f0,f1,f2,f3,f4,f5,f6,f7,f8,f9,f10,f11,g11,f12,setD,↓kN,↓kP,push_cast,seval,reduceCtorEq,cI]
  ·have d2:=hp 2 (by decide)
   simp +contextual only [d2,hnl,h0,o1,e0,f0,f1,f2,f3,f4,f5,f6,f7,f8,f9,f10,f11,g11,f12,setD,↓kN,↓kP,push_cast,seval,reduceCtorEq,cI]
   omega
  ·simp +contextual only [hnl,h0,o1,e0,f0,f1,f2,f3,f4,f5,f6,f7,f8,f9,f10,f11,g11,f12,setD,↓kN,↓kP,push_cast,seval,reduceCtorEq,cI]
  ·have d4:=hp 4 (by decide)
   simp +contextual only [d4,hnl,h0,o1,e0,f0,f1,f2,f3,f4,f5,f6,f7,f8,f9,f10,f11,g11,f12,setD,↓kN,↓kP,push_cast,seval,reduceCtorEq,cI]
   omega
  ·have d5:=hp 5 (by decide)
   simp +contextual only [d5,hnl,h0,o1,e0,f0,f1,f2,f3,f4,f5,f6,f7,f8,f9,f10,f11,g11,f12,setD,↓kN,↓kP,push_cast,seval,reduceCtorEq,cI]
  ·have d6:=hp 6 (by decide)
   simp +contextual only [d6,hnl,h0,o1,e0,f0,f1,f2,f3,f4,f5,f6,f7,f8,f9,f10,f11,g11,f12,setD,↓kN,↓kP,push_cast,seval,reduceCtorEq,cI]
  ·have d7:=hp 7 (by decide)
   simp +contextual only [d7,hnl,h0,o1,e0,f0,f1,f2,f3,f4,f5,f6,f7,f8,f9,f10,f11,g11,f12,setD,↓kN,↓kP,push_cast,seval,reduceCtorEq,cI]
   omega
  ·have d0:=hp 0 (by decide)
   have d3:=hp 3 (by decide)
   have d8:=hp 8 (by decide)
   simp +contextual only [d0,d3,d8,hnl,h0,o1,e0,f0,f1,f2,f3,f4,f5,f6,f7,f8,f9,f10,f11,g11,f12,setD,↓kN,↓kP,push_cast,seval,reduceCtorEq,cI]
  ·have d9:=hp 9 (by decide)
   simp +contextual only [d9,hnl,h0,o1,e0,f0,f1,f2,f3,f4,f5,f6,f7,f8,f9,f10,f11,g11,f12,setD,↓kN,↓kP,push_cast,seval,reduceCtorEq,cI]
  ·have n12:=zAV o1 h0
   simp +contextual only [n12,hnl,h0,o1,e0,f0,f1,f2,f3,f4,f5,f6,f7,f8,f9,f10,f11,g11,f12,setD,↓kN,↓kP,push_cast,seval,reduceCtorEq,cI]
  ·have d10:=hp 10 (by decide)
   have d11:=hp 11 (by decide)
   simp +contextual only [d10,d11,hnl,h0,o1,e0,f0,f1,f2,f3,f4,f5,f6,f7,f8,f9,f10,f11,g11,f12,setD,↓kN,↓kP,push_cast,seval,reduceCtorEq,cI]
 intro D s hD hI
 obtain ⟨o1,e0,f0,f1,f2,f3,f4,f5,f6,f7,f8,f9,f10,f11,g11,f12⟩:=hI
 have v1:=f11 (hD 11 (by decide))
 have v2:=f12 (hD 12 (by decide))
 refine hK _ ?_
 refine zAo (t:=AS.of [(5,.one (.box 5))] [] [(5,.one (.val stSh (c,List.replicate c.length (0:Int),List.replicate (c.getD 0 []).length (0:Int),(0:Int))))]) ?_ ?_
 ·refine zAf ?_ ?_ ?_<;>simp only [v1,v2,push_cast,seval,reduceCtorEq,cI]
  all_goals first|exact ⟨_,rfl⟩|skip
 clear hK hD f0 f1 f2 f3 f4 f5 f6 f7 f8 f9 f10 f11 g11 f12 v1 v2 e0 o1 s D
 have hsz:StateSz (newS c):=(zLk hin).sz
 have hsz2:StateSz (c,List.replicate c.length (0:Int),List.replicate (c.getD 0 []).length (0:Int),(0:Int)):=hsz
 have eN:newH c=((),(),c,c,List.replicate c.length (0:Int),List.replicate (c.getD 0 []).length (0:Int),(0:Int),[],ByteArray.empty,()):=rfl
 generalize List.replicate c.length (0:Int)=a at hsz2 eN ⊢
 generalize List.replicate (c.getD 0 []).length (0:Int)=b at hsz2 eN ⊢
 replace hnl:=And.intro hnl0 (And.intro he (eq_true hsz2))
 refine zAb fun K hK=>?_
 refine zBL hE (fun D s=>(D 6=true→D 5=true) ∧
  s.env 5=.one (.box 5) ∧
  s.boxes 5=some (.one (.val stSh (c,a,b,(0:Int)))) ∧
  (D 0=true→s.env 22=.one (.val stSh (c,a,b,(0:Int)))) ∧
  (D 1=true→s.env 23=.one (.val stSh (c,a,b,(0:Int)))) ∧
  (D 2=true→s.env 24=.one (.val (.sl (.sl .int)) c)) ∧
  (D 3=true→s.env 25=.one (.val stSh (c,a,b,(0:Int)))) ∧
  (D 4=true→s.env 26=.rcd [.raw (.int .i32 0),.raw (.int .u32 0),.val (.sl (.sl .int)) c,.val (.sl (.sl .int)) c,.val (.sl .int) a,.val (.sl .int) b,.val .int (0:Int),.nils,.val .str ByteArray.empty]) ∧
  (D 5=true→s.env 27=.one (.box 27)) ∧
  (D 5=true→s.boxes 27=some (.rcd [.raw (.int .i32 0),.raw (.int .u32 0),.val (.sl (.sl .int)) c,.val (.sl (.sl .int)) c,.val (.sl .int) a,.val (.sl .int) b,.val .int (0:Int),.nils,.val .str ByteArray.empty])) ∧
  (D 6=true→s.env 2=.one (.box 27)) ∧
  (D 7=true→s.env 3=.one (.val .int 0))) rfl (by kernel_rfl) ?_ ?_ ?_
 ·dsimp only
  simp only [push_cast,seval,reduceCtorEq,cI]
 ·refine ⟨fun D s h0 hp hI=>?_,fun D s h0 hp hI=>?_,fun D s h0 hp hI=>?_,fun D s h0 hp hI=>?_,fun D s h0 hp hI=>?_,fun D s h0 hp hI=>?_,fun D s h0 hp hI=>?_,fun D s h0 hp hI=>?_,trivial⟩
  all_goals obtain ⟨o1,e5,b5,f0,f1,f2,f3,f4,f5,g5,f6,f7⟩:=hI
  all_goals replace hp:=List.all_eq_true.1 hp
  ·simp +contextual only [hnl,h0,o1,e5,b5,f0,f1,f2,f3,f4,f5,g5,f6,f7,setD,↓kN,↓kP,push_cast,seval,reduceCtorEq,cI]
  ·have d0:=hp 0 (by decide)
   simp +contextual only [d0,hnl,h0,o1,e5,b5,f0,f1,f2,f3,f4,f5,g5,f6,f7,setD,↓kN,↓kP,push_cast,seval,reduceCtorEq,cI]
  ·have d1:=hp 1 (by decide)
   simp +contextual only [d1,hnl,h0,o1,e5,b5,f0,f1,f2,f3,f4,f5,g5,f6,f7,setD,↓kN,↓kP,push_cast,seval,reduceCtorEq,cI]
  ·simp +contextual only [hnl,h0,o1,e5,b5,f0,f1,f2,f3,f4,f5,g5,f6,f7,setD,↓kN,↓kP,push_cast,seval,reduceCtorEq,cI]
  ·have d2:=hp 2 (by decide)
   have d3:=hp 3 (by decide)
   simp +contextual only [d2,d3,hnl,h0,o1,e5,b5,f0,f1,f2,f3,f4,f5,g5,f6,f7,setD,↓kN,↓kP,push_cast,seval,reduceCtorEq,cI]
  ·have d4:=hp 4 (by decide)
   have n6:=zAV o1 h0
   simp +contextual only [d4,n6,hnl,h0,o1,e5,b5,f0,f1,f2,f3,f4,f5,g5,f6,f7,setD,↓kN,↓kP,push_cast,seval,reduceCtorEq,cI]
  ·have d5:=hp 5 (by decide)
   simp +contextual only [d5,hnl,h0,o1,e5,b5,f0,f1,f2,f3,f4,f5,g5,f6,f7,setD,↓kN,↓kP,push_cast,seval,reduceCtorEq,cI]
  ·simp +contextual only [hnl,h0,o1,e5,b5,f0,f1,f2,f3,f4,f5,g5,f6,f7,setD,↓kN,↓kP,push_cast,seval,reduceCtorEq,cI]
 intro D s hD hI
 obtain ⟨o1,e5,b5,f0,f1,f2,f3,f4,f5,g5,f6,f7⟩:=hI
 have v1:=g5 (hD 5 (by decide))
 have v2:=f6 (hD 6 (by decide))
 have v3:=f7 (hD 7 (by decide))
 refine hK _ ?_
 refine zAo (t:=AS.of [(2,.one (.box 27)),(3,.one (.val .int 0))] [] [(27,.rcd [.raw (.int .i32 0),.raw (.int .u32 0),.val (.sl (.sl .int)) c,.val (.sl (.sl .int)) c,.val (.sl .int) a,.val (.sl .int) b,.val .int (0:Int),.nils,.val .str ByteArray.empty])]) ?_ ?_
 ·refine zAf ?_ ?_ ?_<;>simp only [v1,v2,v3,push_cast,seval,reduceCtorEq,cI]
  all_goals first|exact ⟨_,rfl⟩|skip
 refine zW0 27 27 7 9 (sh:=.str) rfl rfl rfl ?_
 refine zAo (t:=AS.of [(2,.one (.box 27)),(3,.one (.val .int 0))] [] [(27,.rcd [.raw (.int .i32 0),.raw (.int .u32 0),.val (.sl (.sl .int)) c,.val (.sl (.sl .int)) c,.val (.sl .int) a,.val (.sl .int) b,.val .int (0:Int),.mk 27 9 .str [],.val .str ByteArray.empty])]) ?_ ?_
 ·refine zAf ?_ ?_ ?_<;>simp only [push_cast,seval,reduceCtorEq,cI]
 refine zAi ?_
 simp only [hnl,eN,push_cast,seval,reduceCtorEq,cI]
end Go.Proofs.YtekfodeknpnkbaaGreatDoor
namespace Go.Proofs.YtekfodeknpnkbaaGreatDoor
open Go.RowKit Go.VS
@[push_cast] def zTs:Con:=⟨[.obj hFs],fun (x:HX×Unit)=>StateSz (hSt x.1),fun (x:HX×Unit)=>{res:=[.val .int (lst (hSt x.1))],objs:=[(0,⟨hFs,x.1⟩)]}⟩
theorem zB7:FnSpec Tryz.prog 22 zTs:=by
 refine FnSpec.of_tri' (E:=know _ [] [] []) (zAl (kc zCf (kc zEL all_nil)) all_nil all_nil) Tryz.func22 rfl rfl (by kernel_rfl) ?_
 intro C x hE hnl hfit hpre
 simp only [Tryz.ntmps22,Tryz.results22,maxLen,seval,push_cast] at hnl hfit hpre ⊢
 obtain ⟨⟨⟨⟩,⟨⟩,(f:List (List Int)),(c:List (List Int)),(a:List Int),(b:List Int),(w:Int),(ord:List ByteArray),(bk:ByteArray),⟨⟩⟩,_⟩:=x
 dsimp only at hfit hpre ⊢
 have hsz:StateSz (c,a,b,w):=hpre
 replace hnl:=And.intro hnl (eq_true hsz)
 simp only [hSt,hBk,lst,push_cast] at hnl ⊢
 repeat' (first|(refine goK (by assumption) ?_; iterate 4 (try clear hK K))|(refine zAb fun K hK=>?_)|((first|refine zAa hE rfl ?_|refine zAi ?_); simp +contextual only [hnl,↓kA,push_cast,seval,reduceCtorEq,cI])|(refine zAg ?_; simp only [thenQ,zAh,if_true,if_false,Nat.reduceEqDiff,reduceCtorEq])|(refine zAe (by rfl) (fun hb=>?_) (fun hb=>?_)<;>(try simp only [bq,reduceCtorEq] at hb)<;>(try omega))|refine andS ?_|fail)
 all_goals rfl
end Go.Proofs.YtekfodeknpnkbaaGreatDoor
namespace Go.Proofs.YtekfodeknpnkbaaGreatDoor
open Go.RowKit Go.VS
theorem zPk {l:List Int} {i n y:Int} (h:chgE l i n y=0) (hi:0≤i) (hl:∀ k,k<l.length→0≤l.getD k 0∧l.getD k 0≤30) :
 (chgL l i n y).length=l.length∧∀ k,k<(chgL l i n y).length→0≤(chgL l i n y).getD k 0∧(chgL l i n y).getD k 0≤30:=by
 have e:chgL l i n y=l.set i.toNat (l.getD i.toNat 0+y):=if_pos h
 rw [e]
 unfold chgE at h
 split at h
 ·omega
 split at h
 ·omega
 split at h
 ·omega
 split at h
 ·omega
 rename_i h1 h2 h3 h4
 refine ⟨List.length_set ..,fun k hk=>?_⟩
 rw [List.length_set] at hk
 rw [List.getD_eq_getElem?_getD,List.getElem?_set]
 by_cases hik:i.toNat=k
 ·rw [if_pos hik,if_pos (by omega),Option.getD_some]; omega
 ·rw [if_neg hik,←List.getD_eq_getElem?_getD]; exact hl k hk
theorem zY2 {c:List (List Int)} {i:Nat} {r:List Int} (hr:r.length=(c.getD i []).length):wid (c.set i r)=wid c:=by
 unfold wid
 rw [List.getD_eq_getElem?_getD,List.getElem?_set]
 by_cases h0:i=0
 ·subst h0
  rw [if_pos rfl]
  by_cases hc:0<c.length
  ·rw [if_pos hc,Option.getD_some,hr]
  ·have:c=[]:=by cases c with|nil=>rfl|cons x l=>simp at hc
   subst this
   rfl
 ·rw [if_neg h0,←List.getD_eq_getElem?_getD]
theorem zZy {k:Nat} {l:List Int} {s:State} (h:DoPre k l s) (h0:(doV k l s).1=0):HOK (doV k l s).2:=by
 obtain ⟨c,a,b,w⟩:=s
 obtain ⟨hk,hl,hn,ht,hla,hlb,ha,hb⟩:=h
 dsimp only at *
 have hl1:1≤l.length:=by
  rw [hl]
  repeat' split
  all_goals omega
 have n0:=hn 0 (by omega)
 obtain rfl|rfl|rfl|rfl|rfl|rfl|rfl:k=0∨k=1∨k=2∨k=3∨k=4∨k=5∨k=6:=by omega
 ·obtain ⟨q1,q2⟩:=zPk (show chgE a (l.getD 0 0) (l.getD 1 0) (l.getD 1 0)=0 from h0) n0.1 ha
  exact ⟨ht,q1.trans hla,hlb,q2,hb⟩
 ·obtain ⟨q1,q2⟩:=zPk (show chgE a (l.getD 0 0) (l.getD 1 0) (-(l.getD 1 0))=0 from h0) n0.1 ha
  exact ⟨ht,q1.trans hla,hlb,q2,hb⟩
 ·obtain ⟨q1,q2⟩:=zPk (show chgE b (l.getD 0 0) (l.getD 1 0) (l.getD 1 0)=0 from h0) n0.1 hb
  exact ⟨ht,hla,q1.trans hlb,ha,q2⟩
 ·obtain ⟨q1,q2⟩:=zPk (show chgE b (l.getD 0 0) (l.getD 1 0) (-(l.getD 1 0))=0 from h0) n0.1 hb
  exact ⟨ht,hla,q1.trans hlb,ha,q2⟩
 ·have hl':l.length=3:=hl
  have n1:=hn 1 (by omega)
  have n2:=hn 2 (by omega)
  rw [doV4] at h0 ⊢
  split at h0
  ·simp at h0
  rename_i h1
  split at h0
  ·simp at h0
  rename_i h2
  rw [if_neg h1,if_neg h2]
  have hi:(l.getD 0 0).toNat<c.length:=by omega
  have hlr:=ht.len hi
  have hsl:((c.getD (l.getD 0 0).toNat []).set (l.getD 1 0).toNat (l.getD 2 0)).length=(c.getD (l.getD 0 0).toNat []).length:=List.length_set ..
  have hw:=zY2 (c:=c) (i:=(l.getD 0 0).toNat) hsl
  refine ⟨zLa (by rw [List.length_set]; exact ht.rows) (by rw [hw]; exact ht.cols) fun i hi'=>?_,by dsimp only; rw [List.length_set]; exact hla,by dsimp only; rw [hw]; exact hlb,ha,hb⟩
  dsimp only at hi' ⊢
  rw [List.length_set] at hi'
  rw [hw,List.getD_eq_getElem?_getD,List.getElem?_set]
  by_cases hii:(l.getD 0 0).toNat=i
  ·rw [if_pos hii,if_pos hi,Option.getD_some]
   refine ⟨by rw [hsl,hlr],fun j hj=>?_⟩
   rw [List.getD_eq_getElem?_getD,List.getElem?_set]
   by_cases hjj:(l.getD 1 0).toNat=j
   ·rw [if_pos hjj,if_pos (by omega),Option.getD_some]; omega
   ·rw [if_neg hjj,←List.getD_eq_getElem?_getD]; exact ht.at hi hj
  ·rw [if_neg hii,←List.getD_eq_getElem?_getD]
   exact ⟨ht.len hi',fun j hj=>ht.at hi' hj⟩
 ·rw [doV5] at h0 ⊢
  split at h0
  ·simp at h0
  rename_i h1
  rw [if_neg h1]
  exact ⟨ht,hla,hlb,ha,hb⟩
 ·rw [doV6] at h0 ⊢
  split at h0
  ·rename_i h1
   rw [if_pos h1]
   exact ⟨ht,hla,hlb,ha,hb⟩
  ·simp at h0
theorem zNv {bk:ByteArray} {least:Int} {t:ByteArray} (h1:0≤least∧least≤999999) (h2:t.size≤30):(zCL bk least t).size≤bk.size+100:=by
 have hb1:InR least:=by unfold InR; omega
 have q1:=zCu hb1
 have q4:(textV least t).size=(itoaV least).size+1+t.size:=by unfold textV; rw [zAU,zAU]; rfl
 have q5:=zCi (lastV bk) (textV least t) (textV least t).size
 have q6:InR (sumV (lastV bk) (textV least t)):=by unfold InR sumV; omega
 have q7:=zCu q6
 have q8:(zCL bk least t).size=bk.size+(itoaV (sumV (lastV bk) (textV least t))).size+1+(textV least t).size+1:=by
  unfold zCL
  rw [zAU,zAU,zAU,zAU]
  rfl
 omega
theorem zNY {x:HX} (h:HInv x) (t:ByteArray):HInv (doX x t):=by
 unfold doX
 split
 ·rename_i h0
  unfold doE at h0
  split at h0
  ·rename_i hok
   split at h0
   ·omega
   rename_i h60
   have hdp:=zL6 hok h.st
   have ho:=h.ord
   have hb:=h.bk
   have hsz:t.size≤30:=(zCe.1 hok).1.1.2
   refine ⟨zZy hdp h0,?_,?_⟩
   ·show (hOrd x++[t]).length≤60
    rw [List.length_append]; simp; omega
   ·show (zCL (hBk x) (lst (doS x t)) t).size≤100*(hOrd x++[t]).length
    have:=zNv (bk:=hBk x) (least:=lst (doS x t)) (t:=t) (zGI _ _ _ _) hsz
    rw [List.length_append]; simp; omega
  ·omega
 ·exact h
end Go.Proofs.YtekfodeknpnkbaaGreatDoor
namespace Go.Proofs.YtekfodeknpnkbaaGreatDoor
open Go.RowKit Go.VS
abbrev rFs:List Go.VS.Fd:=[.val (.sl (.sl .int)),.val (.sl .int),.val (.sl .int),.val .int,.val .int,.val (.sl (.prod .str .int))]
abbrev RX:=FdT rFs
def mkR (s:State) (least:Int) (l:List Line):RX:=(s.1,s.2.1,s.2.2.1,s.2.2.2,least,l,())
def newR (c:List (List Int)):RX:=mkR (newS c) 0 []
end Go.Proofs.YtekfodeknpnkbaaGreatDoor
namespace Go.Proofs.YtekfodeknpnkbaaGreatDoor
open Go.RowKit Go.VS
def rLn (x:RX):List Line:=x.2.2.2.2.2.1
end Go.Proofs.YtekfodeknpnkbaaGreatDoor
namespace Go.Proofs.YtekfodeknpnkbaaGreatDoor
open Go.RowKit Go.VS
theorem zDV (s:ByteArray) (c:UInt8):zAB s ⟨#[c]⟩=if zAy s c.toNat=true then rcut1 s c.toNat::zAB (rcut2 s c.toNat) ⟨#[c]⟩ else [s]:=by
 have hi:Lib.indexB s ⟨#[c]⟩=if zAy s c.toNat=true then (cutI s c.toNat:Int) else -1:=zMj s c
 by_cases h:zAy s c.toNat=true
 ·rw [if_pos h] at hi
  rw [if_pos h]
  unfold zAB
  rw [Lib.countB_hit s _ _ (Nat.le_refl _) hi,Nat.add_comm,Lib.splitB_hit _ 0 _ s _ hi]
  have e1:rcut1 s c.toNat=s.extract 0 (cutI s c.toNat+0):=by unfold rcut1; rw [if_pos h]; rfl
  have e2:rcut2 s c.toNat=s.extract (cutI s c.toNat+(⟨#[c]⟩:ByteArray).size) s.size:=by unfold rcut2; rw [if_pos h]; rfl
  rw [e1,e2]
 ·rw [if_neg h] at hi
  rw [if_neg h]
  unfold zAB
  rw [Lib.countB_miss s _ hi,Lib.splitB_zero]
theorem zJi:∀ (n:Nat) (s:ByteArray),s.size≤n→zAB s spS=zBx s
 | 0,s,h=>by
  have e:=zDV s 32
  have e':zAB s spS=if zAy s 32=true then rcut1 s 32::zAB (rcut2 s 32) spS else [s]:=e
  rw [e',zG5]
  by_cases hh:zAy s 32=true
  ·have:=zIe hh; omega
  ·rw [if_neg hh,if_neg hh]
 | n+1,s,h=>by
  have e:=zDV s 32
  have e':zAB s spS=if zAy s 32=true then rcut1 s 32::zAB (rcut2 s 32) spS else [s]:=e
  rw [e',zG5]
  by_cases hh:zAy s 32=true
  ·have:=zIe hh
   rw [if_pos hh,if_pos hh,zJi n _ (by omega)]
  ·rw [if_neg hh,if_neg hh]
theorem zNc (t:ByteArray):zAB t spS=zBx t:=zJi _ t (Nat.le_refl _)
theorem hw_eq (t:ByteArray) (i:Nat):hw t i=zAE t i:=by unfold hw zAE; rw [zNc]
theorem zK9 (s:ByteArray):zFl s=true↔zBl s=true∧numRV s≤99999:=by
 have e:zFl s=numV s 99999:=by unfold zFl numV; simp only [Bool.and_assoc]
 rw [e,zXo (by omega),Bool.and_eq_true,decide_eq_true_eq]
theorem zHa:∀ p∈formsL,smHas formsL p.1=true∧smGet formsL p.1=p.2∧numsV p.1=p.2.2:=by
 intro p hp
 simp only [formsL,List.mem_cons,List.not_mem_nil,or_false] at hp
 rcases hp with rfl|rfl|rfl|rfl|rfl|rfl|rfl<;>exact ⟨by decide +kernel,by decide +kernel,by decide +kernel⟩
theorem zJX {k:ByteArray} (h:smHas formsL k=true):∃ p∈formsL,p.1=k:=by
 unfold smHas at h
 cases hf:formsL.find? (fun p=>decide (p.1=k)) with
 | none=>rw [hf] at h; cases h
 | some p =>
  have h2:=List.find?_some (p:=fun p:ByteArray×Int×Int=>decide (p.1=k)) hf
  exact ⟨p,List.mem_of_find?_eq_some hf,of_decide_eq_true h2⟩
def kName (k:Nat):ByteArray:=(formsL.getD k (pPut,0,2)).1
theorem kname {t:ByteArray} (h:hpOK t=true):hkind t≤6∧zAE t 0=kName (hkind t):=by
 obtain ⟨p,hp,hk⟩:=zJX (zCe.1 h).1.2.1
 have q2:=(zHa p hp).2.1
 have e0:hform t=smGet formsL (hw t 0):=rfl
 rw [hk,←e0] at q2
 rw [hw_eq] at hk
 unfold hkind
 rw [q2,←hk]
 simp only [formsL,List.mem_cons,List.not_mem_nil,or_false] at hp
 rcases hp with rfl|rfl|rfl|rfl|rfl|rfl|rfl<;>exact ⟨by decide,rfl⟩
def NoB (c:Nat) (s:ByteArray):Prop:=∀ i,i<s.size→byteV s i≠c
theorem zDy {a b:ByteArray} {i:Nat} (h:i<a.size):byteV (a++b) i=byteV a i:=by
 have hl:a.data.toList.length=a.size:=by rw [Array.length_toList]; rfl
 unfold byteV
 rw [ByteArray.data_append,Array.toList_append,List.getD_eq_getElem?_getD,List.getElem?_append_left (by omega),←List.getD_eq_getElem?_getD]
theorem zIo {a b:ByteArray} {i:Nat} (h:a.size≤i):byteV (a++b) i=byteV b (i - a.size):=by
 have hl:a.data.toList.length=a.size:=by rw [Array.length_toList]; rfl
 unfold byteV
 rw [ByteArray.data_append,Array.toList_append,List.getD_eq_getElem?_getD,List.getElem?_append_right (by omega),hl,←List.getD_eq_getElem?_getD]
theorem NoB.app {c:Nat} {a b:ByteArray} (ha:NoB c a) (hb:NoB c b):NoB c (a++b):=by
 intro i hi
 rw [ByteArray.size_append] at hi
 rcases Nat.lt_or_ge i a.size with h|h
 ·rw [zDy h]; exact ha i h
 ·rw [zIo h]; exact hb _ (by omega)
theorem zXQ {s:ByteArray} {y i:Nat} (hi:i<s.size) (h1:byteV s i=y) (h2:∀ j,j<i→byteV s j≠y):cutI s y=i:=by
 obtain ⟨q1,q2,_,q4⟩:=zBo s y s.size 0 (by omega)
 have e:zCr s y s.size 0=cutI s y:=rfl
 rw [e] at q1 q2 q4
 rcases Nat.lt_trichotomy (cutI s y) i with h|h|h
 ·exact absurd (q2 (by omega)) (h2 _ h)
 ·exact h
 ·exact absurd h1 (q1 i (Nat.zero_le _) h)
theorem zOm {s:ByteArray} {y:Nat} (h:NoB y s):¬zAy s y=true:=by
 intro hh
 have hh':cutI s y<s.size:=of_decide_eq_true hh
 exact h _ hh' ((zBo s y s.size 0 (by omega)).2.1 hh')
theorem zX6 {s:ByteArray} {y:Nat} (h:¬zAy s y=true):NoB y s:=by
 intro i hi e
 have hh:¬cutI s y<s.size:=fun e=>h (decide_eq_true e)
 exact (zBo s y s.size 0 (by omega)).1 i (Nat.zero_le _) (by unfold cutI at hh; omega) e
theorem zGc {a b:ByteArray} {c:UInt8} (h:NoB c.toNat a):zAy (a++⟨#[c]⟩++b) c.toNat=true∧rcut1 (a++⟨#[c]⟩++b) c.toNat=a∧rcut2 (a++⟨#[c]⟩++b) c.toNat=b:=by
 have h1:(⟨#[c]⟩:ByteArray).size=1:=rfl
 have hsz:(a++⟨#[c]⟩++b).size=a.size+1+b.size:=by rw [ByteArray.size_append,ByteArray.size_append,h1]
 have hl:a.data.toList.length=a.size:=by rw [Array.length_toList]; rfl
 have hlb:b.data.toList.length=b.size:=by rw [Array.length_toList]; rfl
 have hs1:(a++⟨#[c]⟩).size=a.size+1:=by rw [ByteArray.size_append,h1]
 have hi:cutI (a++⟨#[c]⟩++b) c.toNat=a.size:=by
  refine zXQ (by omega) ?_ fun j hj=>?_
  ·rw [zDy (by omega),zIo (Nat.le_refl _),Nat.sub_self]; rfl
  ·rw [zDy (by omega),zDy hj]; exact h j hj
 have hh:zAy (a++⟨#[c]⟩++b) c.toNat=true:=decide_eq_true (by omega)
 have hL:(a++⟨#[c]⟩++b).data.toList=a.data.toList++(c::b.data.toList):=by
  rw [ByteArray.data_append,Array.toList_append,ByteArray.data_append,Array.toList_append,List.append_assoc]; rfl
 refine ⟨hh,zE3 ?_,zE3 ?_⟩
 ·unfold rcut1
  rw [if_pos hh,zCG,hi,hL,List.drop_zero,Nat.sub_zero,←hl,List.take_left']
  rfl
 ·unfold rcut2
  rw [if_pos hh,zCG,hi,hL,hsz,←hl]
  have e:List.drop (a.data.toList.length+1) (a.data.toList++c::b.data.toList)=b.data.toList:=by
   rw [List.drop_append,List.drop_of_length_le (by omega)]
   simp
  rw [e,List.take_of_length_le (by omega)]
theorem zVp {s:ByteArray} {c:UInt8} (h:zAy s c.toNat=true):NoB c.toNat (rcut1 s c.toNat)∧rcut1 s c.toNat++⟨#[c]⟩++rcut2 s c.toNat=s:=by
 refine ⟨fun i hi=>?_,zGy h⟩
 have hj:=zGy h
 have hh:cutI s c.toNat<s.size:=of_decide_eq_true h
 have hz:(rcut1 s c.toNat).size=cutI s c.toNat:=by unfold rcut1; rw [if_pos h,ByteArray.size_extract]; omega
 have e:byteV (rcut1 s c.toNat) i=byteV s i:=by
  conv=>rhs; rw [←hj,zDy (by rw [ByteArray.size_append]; omega),zDy hi]
 rw [e]
 exact (zBo s c.toNat s.size 0 (by omega)).1 i (Nat.zero_le _) (by unfold cutI at hz; omega)
theorem zU5 {y:Nat} (hy:y≠32):∀ (n:Nat) (s:ByteArray),s.size≤n→(∀ w∈zBx s,NoB y w)→NoB y s:=by
 intro n
 induction n with
 | zero=>intro s hs _ i hi; omega
 | succ n ih =>
  intro s hs hw
  by_cases hh:zAy s 32=true
  ·rw [zG5,if_pos hh] at hw
   have hj:rcut1 s 32++⟨#[32]⟩++rcut2 s 32=s:=zGy (c:=32) hh
   rw [←hj]
   refine ((hw _ (List.mem_cons_self ..)).app fun i hi=>?_).app (ih _ (by have:=zIe hh; omega) fun w hm=>hw w (List.mem_cons_of_mem _ hm))
   have hi':i<1:=hi
   obtain rfl:i=0:=by omega
   exact fun e=>hy e.symm
  ·rw [zG5,if_neg hh] at hw
   exact hw s (List.mem_singleton.2 rfl)
theorem zYt {s:ByteArray} (h:zBl s=true) {y:Nat} (hy:y<48):NoB y s:=by
 rw [zBl,Bool.and_eq_true] at h
 intro i hi e
 have:=zCT.1 h.2 i hi
 omega
theorem zT6 {t:ByteArray} (h:hpOK t=true):NoB 10 t:=by
 refine zU5 (by decide) _ t (Nat.le_refl _) fun w hw=>?_
 obtain ⟨i,hi,rfl⟩:=List.getElem_of_mem hw
 have e:(zBx t)[i]=zAE t i:=by unfold zAE; rw [List.getD_eq_getElem?_getD,List.getElem?_eq_getElem hi]; rfl
 rw [e]
 rcases Nat.eq_zero_or_pos i with rfl|hp
 ·obtain ⟨k6,kn⟩:=kname h
  rw [kn]
  generalize hkind t=k at k6
  have:∀ k,k<7→∀ i,i<(kName k).size→byteV (kName k) i≠10:=by decide +kernel
  exact this k (by omega)
 ·have:=(zCe.1 h).2 (i - 1) (by rw [zNc]; omega)
  rw [show i - 1+1=i by omega,hw_eq,zK9] at this
  exact zYt this.1 (by decide)
end Go.Proofs.YtekfodeknpnkbaaGreatDoor
namespace Go.Proofs.YtekfodeknpnkbaaGreatDoor
open Go.RowKit Go.VS
def lsum' (s:Int) (x:Line):Int:=sumV s (textV x.2 x.1)
def bkF:Int→List Line→ByteArray
 | _,[]=>ByteArray.empty
 | s,x::L=>lineV s x++nlS++bkF (lsum' s x) L
def bsF:Int→List Line→Int
 | s,[]=>s
 | s,x::L=>bsF (lsum' s x) L
theorem zH4:∀ (L:List Line) (s:Int) (x:Line),bkF s (L++[x])=bkF s L++lineV (bsF s L) x++nlS
 | [],s,x=>by
  show lineV s x++nlS++ByteArray.empty=ByteArray.empty++lineV s x++nlS
  rw [ByteArray.append_empty,ByteArray.empty_append]
 | y::L,s,x=>by
  show lineV s y++nlS++bkF (lsum' s y) (L++[x])=lineV s y++nlS++bkF (lsum' s y) L++lineV (bsF (lsum' s y) L) x++nlS
  rw [zH4 L]
  simp only [ByteArray.append_assoc]
theorem zKQ:∀ (L:List Line) (s:Int) (x:Line),bsF s (L++[x])=lsum' (bsF s L) x
 | [],_,_=>rfl
 | y::L,s,x=>zKQ L (lsum' s y) x
theorem zXu (l:List Line):∀ k,k≤l.length→wrK l k=(bkF 0 (l.take k),bsF 0 (l.take k))
 | 0,_=>rfl
 | k+1,h=>by
  have ih:=zXu l k (by omega)
  have e:l.getD k (ByteArray.empty,0)=l[k]:=by rw [List.getD_eq_getElem?_getD,List.getElem?_eq_getElem h]; rfl
  rw [List.take_succ_eq_append_getElem h,zH4,zKQ,←e]
  unfold wrK
  rw [ih]
  dsimp only
  rw [ByteArray.append_assoc]
  rfl
theorem wr_bk (l:List Line):(wrK l l.length).1=bkF 0 l:=by rw [zXu l _ (Nat.le_refl _),List.take_length]
structure LineOK (x:Line):Prop where
 size:1≤x.1.size∧x.1.size≤30
 noB:NoB 10 x.1
 least:0≤x.2∧x.2≤999999
theorem LineOK.pre {x:Line} (h:LineOK x):LinePre x:=⟨by have:=h.size; omega,by have:=h.least; unfold InR; omega⟩
theorem zOW (s:Int) (t:ByteArray):0≤sumV s t∧sumV s t≤1000002:=zCi s t t.size
theorem zGE {v:Int} (h0:0≤v) {y:Nat} (hy:y<48):NoB y (itoaV v):=by
 have hL:(itoaV v).data.toList=Lib.decDigits v.toNat:=by
  rw [zHc]
  have:=Lib.itoa_nonneg v.toNat
  rwa [Int.toNat_of_nonneg h0] at this
 have hs:(itoaV v).size=(Lib.decDigits v.toNat).length:=by rw [←hL,Array.length_toList]; rfl
 intro i hi e
 unfold byteV at e
 rw [hL,List.getD_eq_getElem?_getD,List.getElem?_eq_getElem (by omega)] at e
 have:=zIv v.toNat _ (List.getElem_mem (by omega:i<(Lib.decDigits v.toNat).length))
 have e':((Lib.decDigits v.toNat)[i]).toNat=y:=e
 omega
theorem zXt {y:Nat} (hy:y≠32):NoB y spS:=by
 intro i hi e
 have hi':i<1:=hi
 obtain rfl:i=0:=by omega
 exact hy e.symm
theorem zWT {x:Line} (h:LineOK x):NoB 10 (textV x.2 x.1):=((zGE h.least.1 (by decide)).app (zXt (by decide))).app h.noB
theorem zLf {s:Int} {x:Line} (h:LineOK x):NoB 10 (lineV s x):=((zGE (zOW s _).1 (by decide)).app (zXt (by decide))).app (zWT h)
theorem zRU:∀ (n:Nat) (b l:ByteArray),b.size≤n→NoB 10 l→(zAB (b++nlS++l) nlS).getLast?=some l:=by
 intro n
 induction n with
 | zero =>
  intro b l hb hl
  obtain ⟨q1,q2,q3⟩:=zGc (a:=b) (b:=l) (c:=10) (fun i hi=>by omega)
  have e:zAB (b++nlS++l) nlS=_:=zDV (b++nlS++l) 10
  have hq:zAy (b++nlS++l) (10:UInt8).toNat=true:=q1
  have hq3:rcut2 (b++nlS++l) (10:UInt8).toNat=l:=q3
  rw [e,if_pos hq,hq3,zDV,if_neg (show ¬zAy l (10:UInt8).toNat=true from zOm hl)]
  rfl
 | succ n ih =>
  intro b l hb hl
  have e:zAB (b++nlS++l) nlS=_:=zDV (b++nlS++l) 10
  by_cases hh:zAy b (10:UInt8).toNat=true
  ·obtain ⟨k1,k2⟩:=zVp hh
   have hb2:=zIe hh
   have ha:b++nlS++l=rcut1 b (10:UInt8).toNat++⟨#[10]⟩++(rcut2 b (10:UInt8).toNat++nlS++l):=by
    conv=>lhs; rw [←k2]
    simp only [ByteArray.append_assoc]
   obtain ⟨q1,q2,q3⟩:=zGc (b:=rcut2 b (10:UInt8).toNat++nlS++l) k1
   rw [←ha] at q1 q3
   have hi:=ih (rcut2 b (10:UInt8).toNat) l (by omega) hl
   rw [e,if_pos q1,q3]
   cases hs:zAB (rcut2 b (10:UInt8).toNat++nlS++l) nlS with
   | nil=>rw [hs] at hi; cases hi
   | cons x m =>
    rw [hs] at hi
    show (rcut1 _ _::zAB (rcut2 b (10:UInt8).toNat++nlS++l) nlS).getLast?=some l
    rw [hs,List.getLast?_cons_cons]
    exact hi
  ·obtain ⟨q1,q2,q3⟩:=zGc (a:=b) (b:=l) (c:=10) (zX6 hh)
   have hq:zAy (b++nlS++l) (10:UInt8).toNat=true:=q1
   have hq3:rcut2 (b++nlS++l) (10:UInt8).toNat=l:=q3
   rw [e,if_pos hq,hq3,zDV,if_neg (show ¬zAy l (10:UInt8).toNat=true from zOm hl)]
   rfl
theorem zTf {α:Type} {l:List α} {x d:α} (h:l.getLast?=some x):l.getD ((l.length:Int) - 1).toNat d=x:=by
 rw [List.getLast?_eq_getElem?] at h
 rw [show ((l.length:Int) - 1).toNat=l.length - 1 by omega,List.getD_eq_getElem?_getD,h]
 rfl
theorem zYX (b:ByteArray):trimV (b++nlS) nlS=b:=by
 unfold trimV
 refine zE3 ?_
 show Lib.trimSuffix (b++nlS).data.toList nlS.data.toList=_
 rw [ByteArray.data_append,Array.toList_append]
 have hl:b.data.toList.length=b.size:=by rw [Array.length_toList]; rfl
 show Lib.trimSuffix (b.data.toList++[10]) [10]=_
 have hs:Lib.hasSuffix (b.data.toList++[10]) [10]=true:=by simp [Lib.hasSuffix]
 rw [Lib.trimSuffix,if_pos hs]
 simp
theorem zTo {b:ByteArray} {s:Int} {x:Line} (hb:b=ByteArray.empty∨∃ b',b=b'++nlS) (h:LineOK x):lastV (b++lineV s x++nlS)=lsum' s x:=by
 have hl:(zAB (b++lineV s x) nlS).getLast?=some (lineV s x):=by
  rcases hb with rfl|⟨b',rfl⟩
  ·rw [ByteArray.empty_append]
   have e:zAB (lineV s x) nlS=_:=zDV (lineV s x) 10
   rw [e,if_neg (show ¬zAy (lineV s x) (10:UInt8).toNat=true from zOm (zLf h))]
   rfl
  ·exact zRU _ b' _ (Nat.le_refl _) (zLf h)
 unfold lastV
 rw [zYX,zTf hl]
 have hc:=(zPq (lineV s x) 32).2.1
 have hc':cut1 (lineV s x) spS=rcut1 (lineV s x) 32:=hc
 have hin:=zOW s (textV x.2 x.1)
 have hq:=(zGc (a:=itoaV (sumV s (textV x.2 x.1))) (b:=textV x.2 x.1) (c:=32) (zGE hin.1 (by decide))).2.1
 have hq':rcut1 (lineV s x) 32=itoaV (sumV s (textV x.2 x.1)):=hq
 rw [hc',hq']
 exact (zEf hin.1 (by omega)).2
theorem zW9:∀ (L:List Line) (s:Int),bkF s L=ByteArray.empty∨∃ b',bkF s L=b'++nlS
 | [],_=>.inl rfl
 | x::L,s=>by
  rcases zW9 L (lsum' s x) with h|⟨b',h⟩
  ·exact .inr ⟨lineV s x,by show lineV s x++nlS++bkF _ L=_; rw [h,ByteArray.append_empty]⟩
  ·exact .inr ⟨lineV s x++nlS++b',by show lineV s x++nlS++bkF _ L=_; rw [h]; simp only [ByteArray.append_assoc]⟩
theorem zYe {L:List Line} (h:∀ x∈L,LineOK x):lastV (bkF 0 L)=bsF 0 L:=by
 rcases List.eq_nil_or_concat L with rfl|⟨M,x,rfl⟩
 ·show lastV ByteArray.empty=0
  decide +kernel
 ·rw [List.concat_eq_append] at h ⊢
  rw [zH4,zTo (zW9 M 0) (h x (by simp)),zKQ]
theorem zSe {L:List Line} (h:∀ x∈L,LineOK x) (n:Int) (t:ByteArray):zCL (bkF 0 L) n t=bkF 0 (L++[(t,n)]):=by
 unfold zCL
 rw [zYe h,zH4]
 unfold lineV
 simp only [ByteArray.append_assoc]
theorem zZs {s:Int} {x:Line} {r:ByteArray} (h:LineOK x):zAy (lineV s x++nlS++r) 10=true∧rcut1 (lineV s x++nlS++r) 10=lineV s x∧rcut2 (lineV s x++nlS++r) 10=r:=zGc (c:=10) (zLf h)
theorem nx_bk {s:Int} {x:Line} {r:ByteArray} (h:LineOK x):nxOK (lineV s x++nlS++r) s=true∧zCM (lineV s x++nlS++r)=x∧rcut2 (lineV s x++nlS++r) 10=r∧nxSum (lineV s x++nlS++r) s=lsum' s x:=by
 obtain ⟨a1,a2,a3⟩:=zZs (s:=s) (r:=r) h
 have hin:=zOW s (textV x.2 x.1)
 obtain ⟨b1,b2,b3⟩:=zGc (a:=itoaV (sumV s (textV x.2 x.1))) (b:=textV x.2 x.1) (c:=32) (zGE hin.1 (by decide))
 have b1':zAy (lineV s x) 32=true:=b1
 have b3':rcut2 (lineV s x) 32=textV x.2 x.1:=b3
 obtain ⟨c1,c2,c3⟩:=zGc (a:=itoaV x.2) (b:=x.1) (c:=32) (zGE h.least.1 (by decide))
 have c1':zAy (textV x.2 x.1) 32=true:=c1
 have c2':rcut1 (textV x.2 x.1) 32=itoaV x.2:=c2
 have c3':rcut2 (textV x.2 x.1) 32=x.1:=c3
 have d1:=zMk h.least.1 h.least.2
 have d2:numRV (itoaV x.2)=x.2:=by rw [←zIT d1]; exact (zEf h.least.1 (by have:=h.least; omega)).2
 have w:zBJ (lineV s x++nlS++r)=itoaV x.2:=by unfold zBJ; rw [a2,b3',c2']
 have o:zA6 (lineV s x++nlS++r)=x.1:=by unfold zA6; rw [a2,b3',c3']
 have l:zCM (lineV s x++nlS++r)=x:=by unfold zCM; rw [w,o,d2]
 have t:zBD (lineV s x++nlS++r)=lineV s x:=a2
 have tt:zAX (lineV s x++nlS++r)=textV x.2 x.1:=by unfold zAX; rw [a2,b3']
 refine ⟨?_,l,a3,?_⟩
 ·unfold nxOK zCk nxIs
  rw [a1,t,b1',tt,c1',w,o,d1,d2,l,decide_eq_true h.least.2,decide_eq_true (by have:=h.size; omega:1≤(x.1.size:Int)∧(x.1.size:Int)≤30),decide_eq_true rfl]
  rfl
 ·unfold nxSum
  rw [w,o,d2]
  rfl
theorem zUt:∀ (L:List Line) (s:Int) (n:Nat),L.length≤n→(∀ x∈L,LineOK x)→zAL n (bkF s L) s=(L,ByteArray.empty)
 | [],s,n,_,_=>zBr (by
  have:nxOK ByteArray.empty s=false:=by
   unfold nxOK zCk
   rw [show zAy ByteArray.empty 10=false from by decide +kernel]
   rfl
  show ¬nxOK ByteArray.empty s=true
  rw [this]; decide)
 | x::L,s,0,h,_=>by simp at h
 | x::L,s,n+1,h,hL=>by
  obtain ⟨q1,q2,q3,q4⟩:=nx_bk (s:=s) (r:=bkF (lsum' s x) L) (hL x (List.mem_cons_self ..))
  have e:bkF s (x::L)=lineV s x++nlS++bkF (lsum' s x) L:=rfl
  rw [e,zEl q1,q2,q3,q4,zUt L _ n (by simp at h; omega) fun y hy=>hL y (List.mem_cons_of_mem _ hy)]
end Go.Proofs.YtekfodeknpnkbaaGreatDoor
namespace Go.Proofs.YtekfodeknpnkbaaGreatDoor
open Go.RowKit Go.VS Go.OT
theorem zME {l:List Int} (h1:1≤l.length∧l.length≤5) (h2:∀ i,i<l.length→0≤l.getD i 0∧l.getD i 0≤30):zB3 l=true:=by
 rw [zB3,Bool.and_eq_true,decide_eq_true_eq,List.all_eq_true]
 refine ⟨h1,fun x hx=>?_⟩
 obtain ⟨i,hi,rfl⟩:=List.getElem_of_mem hx
 have:=h2 i hi
 rw [List.getD_eq_getElem?_getD,List.getElem?_eq_getElem hi] at this
 exact decide_eq_true this
structure WOK (s:State):Prop where
 st:HOK s
 w:0≤s.2.2.2∧s.2.2.2≤99
theorem WOK.wd {s:State} (h:WOK s):errWd s.2.1 s.2.2.1 s.1 s.2.2.2=0:=by
 obtain ⟨⟨h1,h2,h3,h4,h5⟩,hw⟩:=h
 have hr:=h1.rows
 have hc:=h1.cols
 have hf:ForOK s.2.1 s.2.2.1 s.1:=⟨zME (by omega) h4,zME (by omega) h5,h1,h2.symm,h3.symm⟩
 rw [errWd,if_pos (zK3 hf),errW,if_pos hw]
theorem zPZ {c:List (List Int)} (h:InTab 0 99 c):WOK (newS c):=⟨zLk h,by show (0:Int)≤0∧(0:Int)≤99; omega⟩
theorem zTI {c:List (List Int)} (h:InTab 0 99 c):lst (newS c)=0:=by
 have hwd:=(zPZ h).wd
 have hin:=zGI (newS c).2.1 (newS c).2.2.1 (newS c).1 (newS c).2.2.2
 have hm:=(zBE hwd).1
 have e:lst (newS c)=zBa (newS c).2.1 (newS c).2.2.1 (newS c).1 (newS c).2.2.2:=if_pos hwd
 have z:=zKa hm.mc (newS c).2.2.2
 have e0:(newS c).2.2.2=0:=rfl
 rw [e0] at z e
 have e1:lst (newS c)=zA9 (newS c).2.1 (newS c).2.2.1 (newS c).1 (newS c).2.2.2:=rfl
 rw [Int.zero_mul] at z
 omega
theorem dov_w {k:Nat} {l:List Int} {s:State} (h:DoPre k l s) (hw:0≤s.2.2.2∧s.2.2.2≤99):0≤(doV k l s).2.2.2.2∧(doV k l s).2.2.2.2≤99:=by
 have hl:=h.len
 have hn:=h.num 0
 have hk:=h.kind
 obtain rfl|rfl|rfl|rfl|rfl|rfl|rfl:k=0∨k=1∨k=2∨k=3∨k=4∨k=5∨k=6:=by omega
 ·exact hw
 ·exact hw
 ·exact hw
 ·exact hw
 ·obtain ⟨c,a,b,w⟩:=s
  rw [doV4]
  repeat' split
  all_goals exact hw
 ·obtain ⟨c,a,b,w⟩:=s
  have hl':l.length=1:=hl
  rw [doV5]
  split
  ·exact hw
  ·have:=hn (by omega)
   show 0≤l.getD 0 0∧l.getD 0 0≤99
   omega
 ·obtain ⟨c,a,b,w⟩:=s
  rw [doV6]
  split
  all_goals exact hw
structure HL (h:HX) (L:List Line):Prop where
 inv:HInv h
 w:0≤(hSt h).2.2.2∧(hSt h).2.2.2≤99
 ord:hOrd h=L.map Prod.fst
 bk:hBk h=bkF 0 L
 ln:∀ y∈L,LineOK y
theorem HL.len {h:HX} {L:List Line} (q:HL h L):(hOrd h).length=L.length∧L.length≤60:=by
 have:=q.inv.ord
 rw [q.ord,List.length_map] at *
 exact ⟨rfl,this⟩
theorem HL.new {c:List (List Int)} (h:InTab 0 99 c):HL (newH c) []:=⟨zLj h,(zPZ h).w,rfl,rfl,fun y hy=>by cases hy⟩
theorem zL5 {h:HX} {t:ByteArray} (e:¬doE h t=0):doX h t=h:=if_neg e
theorem zKY {h:HX} {t:ByteArray} (e:doE h t=0):doX h t=mkH (zJZ h) (doS h t) (hOrd h++[t]) (zCL (hBk h) (lst (doS h t)) t):=if_pos e
theorem doE_0 {h:HX} {t:ByteArray} (e:doE h t=0):hpOK t=true∧¬(hOrd h).length=60∧(doV (hkind t) (hargs t) (hSt h)).1=0:=by
 unfold doE at e
 split at e
 ·split at e
  ·omega
  ·exact ⟨by assumption,by assumption,e⟩
 ·omega
theorem HL.line {h:HX} {L:List Line} (q:HL h L) {t:ByteArray} (e:doE h t=0):LineOK (t,lst (hSt (doX h t))):=by
 obtain ⟨h1,_,_⟩:=doE_0 e
 have:=(zCe.1 h1).1.1
 exact ⟨this,zT6 h1,zGI _ _ _ _⟩
theorem HL.step {h:HX} {L:List Line} (q:HL h L) {t:ByteArray} (e:doE h t=0):HL (doX h t) (L++[(t,lst (hSt (doX h t)))]):=by
 have hi:=zNY q.inv t
 have hl:=q.line e
 have hx:=zKY e
 have es:hSt (doX h t)=doS h t:=by rw [hx]; rfl
 refine ⟨hi,?_,?_,?_,fun y hy=>?_⟩
 ·rw [es]
  exact dov_w (zL6 (doE_0 e).1 q.inv.st) q.w
 ·rw [hx]
  show hOrd h++[t]=_
  rw [q.ord,List.map_append]
  rfl
 ·rw [←zSe q.ln,←q.bk,es,hx]
  rfl
 ·rcases List.mem_append.1 hy with hy|hy
  ·exact q.ln y hy
  ·rw [List.mem_singleton] at hy; rw [hy]; exact hl
def rSt (x:RX):State:=(x.1,x.2.1,x.2.2.1,x.2.2.2.1)
def rLs (x:RX):Int:=x.2.2.2.2.1
structure HR (h:HX) (x:RX):Prop where
 hl:HL h (rLn x)
 st:rSt x=hSt h
 ls:rLs x=lst (hSt h)
def rdoE (x:RX) (t:ByteArray):Int:=if hpOK t=true then (if (rLn x).length=60 then 3 else (doV (hkind t) (hargs t) (rSt x)).1) else 2
def rdoS (x:RX) (t:ByteArray):State:=(doV (hkind t) (hargs t) (rSt x)).2
def rdoX (x:RX) (t:ByteArray):RX:=if rdoE x t=0 then mkR (rdoS x t) (lst (rdoS x t)) (rLn x++[(t,lst (rdoS x t))]) else x
structure RInv (x:RX):Prop where
 st:HOK (rSt x)
 ls:rLs x=lst (rSt x)
 len:(rLn x).length≤60
 ln:∀ y∈rLn x,LineOK y
theorem RInv.wr {x:RX} (q:RInv x):WritePre (rLn x):=⟨by have:=q.len; omega,fun y hy=>(q.ln y hy).pre⟩
theorem HR.new {c:List (List Int)} (h:InTab 0 99 c):HR (newH c) (newR c):=⟨HL.new h,rfl,(zTI h).symm⟩
theorem HR.doE {h:HX} {x:RX} (q:HR h x) (t:ByteArray):rdoE x t=doE h t:=by
 unfold rdoE Go.Proofs.YtekfodeknpnkbaaGreatDoor.doE
 rw [q.st,q.hl.len.1]
theorem HR.doX {h:HX} {x:RX} (q:HR h x) (t:ByteArray):HR (doX h t) (rdoX x t):=by
 by_cases e:Go.Proofs.YtekfodeknpnkbaaGreatDoor.doE h t=0
 ·have e2:rdoE x t=0:=by rw [q.doE]; exact e
  have hs:=q.hl.step e
  have hx:=zKY e
  have es:hSt (Go.Proofs.YtekfodeknpnkbaaGreatDoor.doX h t)=doS h t:=by rw [hx]; rfl
  have er:rdoS x t=doS h t:=by unfold rdoS doS; rw [q.st]
  have hr:rdoX x t=mkR (rdoS x t) (lst (rdoS x t)) (rLn x++[(t,lst (rdoS x t))]):=if_pos e2
  rw [es] at hs
  rw [hr,er]
  exact ⟨hs,es.symm,by rw [es]; rfl⟩
 ·have e2:¬rdoE x t=0:=by rw [q.doE]; exact e
  have hr:rdoX x t=x:=if_neg e2
  rw [hr,zL5 e]
  exact q
theorem HR.book {h:HX} {x:RX} (q:HR h x):hBk h=(wrK (rLn x) (rLn x).length).1:=by rw [wr_bk]; exact q.hl.bk
inductive Hist (c:List (List Int)):HX→List Line→Prop
 | new:Hist c (newH c) []
 | step {h:HX} {L:List Line} {t:ByteArray}:Hist c h L→doE h t=0→Hist c (doX h t) (L++[(t,lst (hSt (doX h t)))])
theorem Hist.hl {c:List (List Int)} (hc:InTab 0 99 c) {h:HX} {L:List Line} (q:Hist c h L):HL h L:=by
 induction q with
 | new=>exact HL.new hc
 | step _ e ih=>exact ih.step e
theorem Hist.first {c:List (List Int)} {h:HX} {L:List Line} (q:Hist c h L):zJZ h=c:=by
 induction q with
 | new=>rfl
 | step _ e ih=>rw [zKY e]; exact ih
def repV (h:HX):List Line→Nat→HX×Nat×Int
 | [],i=>(h,i,0)
 | y::L,i=>if doE h y.1=0 then (if lst (hSt (doX h y.1))=y.2 then repV (doX h y.1) L (i+1) else (h,i,7)) else (h,i,doE h y.1)
theorem Hist.rep {c:List (List Int)} {h:HX} {L:List Line} (q:Hist c h L):∀ M,repV (newH c) (L++M) 0=repV h M L.length:=by
 induction q with
 | new=>intro M; rfl
 | step _ e ih =>
  intro M
  rw [List.append_assoc,ih]
  show repV _ (_::M) _=_
  unfold repV
  rw [if_pos e,if_pos rfl,List.length_append]
  cases M<;>rfl
theorem Hist.all {c:List (List Int)} {h:HX} {L:List Line} (q:Hist c h L):repV (newH c) L 0=(h,L.length,0):=by
 have:=q.rep []
 rw [List.append_nil] at this
 exact this
def hAt (c:List (List Int)) (L:List Line) (i:Nat):HX:=(L.take i).foldl (fun h y=>doX h y.1) (newH c)
theorem Hist.at {c:List (List Int)} {h:HX} {L:List Line} (q:Hist c h L):hAt c L L.length=h∧(∀ i,i≤L.length→Hist c (hAt c L i) (L.take i))∧∀ i,i<L.length→doE (hAt c L i) (L.getD i (ByteArray.empty,0)).1=0∧hAt c L (i+1)=doX (hAt c L i) (L.getD i (ByteArray.empty,0)).1:=by
 induction q with
 | new =>
  refine ⟨rfl,fun i hi=>?_,fun i hi=>by simp at hi⟩
  obtain rfl:i=0:=by simpa using hi
  exact .new
 | @step h L t q e ih =>
  obtain ⟨h1,h2,h3⟩:=ih
  have hl:(L++[(t,lst (hSt (doX h t)))]).length=L.length+1:=by rw [List.length_append]; rfl
  have ha:∀ i,i≤L.length→hAt c (L++[(t,lst (hSt (doX h t)))]) i=hAt c L i:=fun i hi=>by unfold hAt; rw [List.take_append_of_le_length hi]
  have hend:hAt c (L++[(t,lst (hSt (doX h t)))]) (L.length+1)=doX h t:=by
   have e1:(L++[(t,lst (hSt (doX h t)))]).take (L.length+1)=L++[(t,lst (hSt (doX h t)))]:=List.take_of_length_le (by omega)
   have e2:L.foldl (fun h y=>doX h y.1) (newH c)=h:=by have:=h1; unfold hAt at this; rwa [List.take_length] at this
   unfold hAt
   rw [e1,List.foldl_append,e2]
   rfl
  refine ⟨by rw [hl]; exact hend,fun i hi=>?_,fun i hi=>?_⟩
  ·rw [hl] at hi
   rcases Nat.lt_or_ge i (L.length+1) with h5|h5
   ·rw [ha i (by omega),List.take_append_of_le_length (by omega)]
    exact h2 i (by omega)
   ·obtain rfl:i=L.length+1:=by omega
    rw [hend,List.take_of_length_le (by omega)]
    exact .step q e
  ·rw [hl] at hi
   rcases Nat.lt_or_ge i L.length with h5|h5
   ·rw [ha i (by omega),ha (i+1) (by omega),List.getD_eq_getElem?_getD,List.getElem?_append_left h5,←List.getD_eq_getElem?_getD]
    exact h3 i h5
   ·obtain rfl:i=L.length:=by omega
    have e3:(L++[(t,lst (hSt (doX h t)))]).getD L.length (ByteArray.empty,0)=(t,lst (hSt (doX h t))):=by
     rw [List.getD_eq_getElem?_getD,List.getElem?_append_right (Nat.le_refl _),Nat.sub_self]; rfl
    rw [ha _ (Nat.le_refl _),h1,hend,e3]
    exact ⟨e,rfl⟩
def doAll (h:HX) (l:List ByteArray):HX:=l.foldl doX h
def zGP (x:RX) (l:List ByteArray):RX:=l.foldl rdoX x
theorem HR.all {h:HX} {x:RX} (q:HR h x):∀ l,HR (doAll h l) (zGP x l):=by
 intro l
 induction l generalizing h x with
 | nil=>exact q
 | cons t l ih=>exact ih (q.doX t)
theorem HL.read {h:HX} {L:List Line} (q:HL h L):zAL 60 (hBk h) 0=(L,ByteArray.empty):=by
 rw [q.bk]
 exact zUt L 0 60 q.len.2 q.ln
theorem Hist.last {c:List (List Int)} (hc:InTab 0 99 c) {h:HX} {L:List Line} (q:Hist c h L):(L=[]∧lst (hSt h)=0)∨(1≤L.length∧(L.map Prod.snd).getD (L.length - 1) 0=lst (hSt h)):=by
 cases q with
 | new=>exact .inl ⟨rfl,zTI hc⟩
 | @step h' L' t q e =>
  refine .inr ⟨by rw [List.length_append]; simp,?_⟩
  rw [List.map_append,List.length_append,List.getD_eq_getElem?_getD,List.getElem?_append_right (by simp)]
  simp
theorem Hist.part {c:List (List Int)} (hc:InTab 0 99 c) {h:HX} {L:List Line} (q:Hist c h L) {n:Nat} (hn:n≤L.length):Hist c (hAt c L n) (L.take n)∧zAL 60 (bkF 0 (L.take n)) 0=(L.take n,ByteArray.empty)∧repV (newH c) (L.take n) 0=(hAt c L n,n,0)∧hBk (hAt c L n)=bkF 0 (L.take n):=by
 have h1:=q.at.2.1 n hn
 have h2:=h1.hl hc
 have h3:=h2.read
 have h4:=h1.all
 rw [h2.bk] at h3
 rw [List.length_take,Nat.min_eq_left hn] at h4
 exact ⟨h1,h3,h4,h2.bk⟩
end Go.Proofs.YtekfodeknpnkbaaGreatDoor
