import Derived.Test.YtekfodeknpnkbaaGreatDoorJ15
set_option linter.unusedSimpArgs false
set_option linter.unusedVariables false
namespace Go.Proofs.YtekfodeknpnkbaaGreatDoor
open Go.RowKit Go.VS
def langZ (fz:List Nat):Lang:={tab.lang with frz:=fun d=>fz.elem d}
def knowZ (fz:List Nat) (l:List (Nat×Con)):Know:={know l [] [] fz with G:=langZ fz}
theorem zTy (fz:List Nat):LangOK Tryz.prog (langZ fz):=by
 have h:=tabOK.lang
 exact ⟨h.info,h.agg,h.int,h.byte,h.bool,h.str,h.sl,h.plain,fun t f n off e=>⟨(h.fld t f n off e).ok⟩,h.fldO,h.fldT,h.pair,h.ones,h.fplain,h.mixed,h.fnT,h.ptrT,h.ifT,h.conc,h.uint,h.ob,h.mp,h.line⟩
theorem zN7 {fz:List Nat} {l:List (Nat×Con)} (h1:∀ p∈l,FnSpec Tryz.prog p.1 p.2):KnowOK Tryz.prog (knowZ fz l):=by
 have h:=zAl (l:=l) (k:=[]) (r:=[]) (own:=fz) h1 all_nil all_nil
 exact ⟨zTy fz,h.con,h.clo,h.self⟩
section
variable (fz:List Nat) (l:List (Nat×Con)) (t f:Nat)
@[push_cast] theorem zX9:(knowZ fz l).G=langZ fz:=rfl
@[push_cast] theorem zYc:(knowZ fz l).T f=lk none (l.map fun p=>(p.1,some p.2)) f:=rfl
@[push_cast] theorem zYa:(knowZ fz l).K f=none:=rfl
@[push_cast] theorem zYb:(knowZ fz l).R f=none:=rfl
@[push_cast] theorem zXt:(knowZ fz l).own=fz:=rfl
@[push_cast] theorem zX8:(langZ fz).sh t=tab.lang.sh t:=rfl
@[push_cast] theorem zX6:(langZ fz).el t=tab.lang.el t:=rfl
@[push_cast] theorem zVP:(langZ fz).plain t=tab.lang.plain t:=rfl
@[push_cast] theorem zXy:(langZ fz).fld t f=tab.lang.fld t f:=rfl
@[push_cast] theorem zWF:(langZ fz).ones t=tab.lang.ones t:=rfl
@[push_cast] theorem zUR:(langZ fz).fplain t f=tab.lang.fplain t f:=rfl
@[push_cast] theorem zXz:(langZ fz).fnT t=tab.lang.fnT t:=rfl
@[push_cast] theorem zWG:(langZ fz).ptrT t=tab.lang.ptrT t:=rfl
@[push_cast] theorem zX7:(langZ fz).ob t=tab.lang.ob t:=rfl
@[push_cast] theorem zXA:(langZ fz).frz t=fz.elem t:=rfl
end
section
variable {C:Ctx} {γ:Gam} {s:AS} {a:Act} {w:World}
theorem zTX (h:Rel C γ s a w) {b off:Nat} {bs:List BV} (d:Nat) (e:TypeId) {sh:Sh} (hf:sh.flat=true) (hb:s.boxes b=some (.rcd bs)) (hi:bs[off]?=some .nils):Rel C γ (s.setBox b (.rcd (bs.set off (.mk d e sh [])))) a w:=by
 obtain ⟨cs,t,d1,d2,d3,d4,d5⟩:=h.boxes b _ hb
 obtain ⟨v,hv,hvr⟩:=zEm bs cs.toList off _ d2 hi
 simp only [bvRep] at hvr
 subst hvr
 refine h.rebox ⟨cs,t,d1,?_,d3,d4,d5⟩
 have:=zCu _ _ off (.mk d e sh []) _ d2 ⟨hf,World.ownsRow_nil _ _ _ _,fun k hk=>by simp [Value.ownBlock] at hk⟩
 rw [zHe _ _ _ hv] at this
 exact this
theorem zUB {N:Nat} {Q:Exit->AS->Prop} {c:Code} (d b off:Nat) (e:TypeId) {sh:Sh} {bs:List BV} (hf:sh.flat=true) (hb:s.boxes b=some (.rcd bs)) (hi:bs[off]?=some .nils) (h:tri C N c Q (s.setBox b (.rcd (bs.set off (.mk d e sh []))))):tri C N c Q s :=
 ⟨fun γ a w hR hN=>h.run γ a w (zTX hR d e hf hb hi) hN⟩
end
def newS (c:List (List Int)):State:=(c,List.replicate c.length (0:Int),List.replicate (c.getD 0 []).length (0:Int),(0:Int))
def newH (c:List (List Int)):HX:=mkH c (newS c) [] ByteArray.empty
@[push_cast] def zXM:Con:=⟨[.sdat (.sl (.sl .int))],fun _=>True,fun (x:List (List Int)×Unit)=>if zAH x.1=0 then {res:=[.obj ⟨hFs,newH x.1⟩,.val .int 0]} else {res:=[.raw (.pointer none),.val .int (zAH x.1)]}⟩
theorem zJ0 {c:List (List Int)} (h:InTab 0 99 c):HOK (newS c):=by
 refine ⟨h,aE ..,aE ..,fun i hi=>?_,fun i hi=>?_⟩
 ·rw [show (newS c).2.1.getD i 0=0 from ?_]; · omega
  simp only [newS,ab,bz]
  split<;>rfl
 ·rw [show (newS c).2.2.1.getD i 0=0 from ?_]; · omega
  simp only [newS,ab,bz]
  split<;>rfl
theorem zOe {c:List (List Int)} (h:InTab 0 99 c):HInv (newH c):=⟨zJ0 h,aq _,aq _⟩
set_option maxHeartbeats 8000000 in
theorem zJ1:FnSpec Tryz.prog 27 zXM:=by
 refine FnSpec.of_tri' (E:=knowZ [14,19] [(42,zHs),(54,zDR)]) (zN7 (all_cons zEW (all_cons stClone_spec all_nil))) Tryz.func27 rfl rfl kr ?_
 intro C x hE hnl hfit hpre
 simp only [Tryz.ntmps27,Tryz.results27,maxLen,seval,push_cast] at hnl hfit hpre ⊢
 obtain ⟨(c:List (List Int)),_⟩:=x
 dsimp only at hfit hpre ⊢
 by_cases he:zAH c=0
 rotate_left
 ·replace hnl:=aa hnl (aB he)
  exact auA
 have hin:=zCa he
 have hr:=hin.rows
 have hcl:1<=(c.getD 0 []).length/\(c.getD 0 []).length<=5:=hin.cols
 have hnl0:=hnl
 replace hnl:=aa hnl he
 refine zAb fun K hK0=>?_
 have hS:=Stop.mk hK0
 clear hK0
 repeat' (first|(refine zAa hE rfl ?_; simp +contextual only [hnl,↓kA,push_cast,seval,reduceCtorEq,cI])|fail)
 refine hS.h _ ?_
 clear hS K
 refine zAb fun K hK0=>?_
 have hS:=Stop.mk hK0
 clear hK0
 repeat' (first|(refine goK (by assumption) ?_; iterate 4 (try clear hK K))|(refine zAb fun K hK=>?_)|(refine zAa hE rfl ?_; simp +contextual only [hnl,↓kA,push_cast,seval,reduceCtorEq,cI])|(refine zAg ?_; simp only [thenQ,zAh,if_true,if_false,Nat.reduceEqDiff,reduceCtorEq])|(refine zAe (by rfl) (fun hb=>?_) (fun hb=>?_)<;>(try simp only [bq,reduceCtorEq] at hb)<;>(try omega))|fail)
 refine hS.h _ ?_
 clear hS K
 refine zAr (t:=AS.of [(0,.one (.val (.sl (.sl .int)) c))] [] []) ?_ ?_
 ·refine zAf ?_ ?_ ?_<;>simp only [push_cast,seval,reduceCtorEq,cI]
 have hszA:StateSz (c,List.replicate c.length (0:Int),List.replicate (c.getD 0 []).length (0:Int),(0:Int)):=(zJ0 hin).sz
 replace hnl:=aa hnl (aG hszA)
 refine zAb fun K hK=>?_
 refine zB8 hE (fun D s=>(D 12=true->D 11=true) /\
  s.env 0=.one (.val (.sl (.sl .int)) c) /\
  (D 0=true->s.env 11=.one (.val (.sl (.sl .int)) c)) /\
  (D 1=true->s.env 12=.one (.val (.sl (.sl .int)) c)) /\
  (D 2=true->s.env 13=.I (c.length:Nat)) /\
  (D 3=true->s.env 14=.one (.val (.sl .int) (List.replicate c.length (0:Int)))) /\
  (D 4=true->s.env 15=.one (.val (.sl (.sl .int)) c)) /\
  (D 5=true->s.env 16=.one (.padr (.sl .int) (c.getD 0 []))) /\
  (D 6=true->s.env 17=.one (.val (.sl .int) (c.getD 0 []))) /\
  (D 7=true->s.env 18=.I ((c.getD 0 []).length:Nat)) /\
  (D 8=true->s.env 19=.one (.val (.sl .int) (List.replicate (c.getD 0 []).length (0:Int)))) /\
  (D 9=true->s.env 20=.one (.val stSh (c,List.replicate c.length (0:Int),List.replicate (c.getD 0 []).length (0:Int),(0:Int)))) /\
  (D 10=true->s.env 21=.one (.val stSh (c,List.replicate c.length (0:Int),List.replicate (c.getD 0 []).length (0:Int),(0:Int)))) /\
  (D 11=true->s.env 5=.one (.box 5)) /\
  (D 11=true->D 12=false->s.boxes 5=some (.rcd [.nils,.nils,.nils,.val .int 0])) /\
  (D 12=true->s.boxes 5=some (.one (.val stSh (c,List.replicate c.length (0:Int),List.replicate (c.getD 0 []).length (0:Int),(0:Int)))))) rfl kr ?_ ?_ ?_
 ·dsimp only
  simp only [push_cast,seval,reduceCtorEq,cI]
 ·refine ⟨fun D s h0 hp hI=>?_,fun D s h0 hp hI=>?_,fun D s h0 hp hI=>?_,fun D s h0 hp hI=>?_,fun D s h0 hp hI=>?_,fun D s h0 hp hI=>?_,fun D s h0 hp hI=>?_,fun D s h0 hp hI=>?_,fun D s h0 hp hI=>?_,fun D s h0 hp hI=>?_,fun D s h0 hp hI=>?_,fun D s h0 hp hI=>?_,fun D s h0 hp hI=>?_,trivial⟩
  all_goals obtain ⟨o1,e0,f0,f1,f2,f3,f4,f5,f6,f7,f8,f9,f10,f11,g11,f12⟩:=hI
  all_goals replace hp:=ay.1 hp
  ·simp +contextual only [hnl,h0,o1,e0,f0,f1,f2,f3,f4,f5,f6,f7,f8,f9,f10,f11,g11,f12,setD,↓kN,↓kP,push_cast,seval,reduceCtorEq,cI]
  ·simp +contextual only [hnl,h0,o1,e0,f0,f1,f2,f3,f4,f5,f6,f7,f8,f9,f10,f11,g11,f12,setD,↓kN,↓kP,push_cast,seval,reduceCtorEq,cI]
  ·have d1:=hp 1 (by decide)
   simp +contextual only [d1,hnl,h0,o1,e0,f0,f1,f2,f3,f4,f5,f6,f7,f8,f9,f10,f11,g11,f12,setD,↓kN,↓kP,push_cast,seval,reduceCtorEq,cI]
  ·have d2:=hp 2 (by decide)
   simp +contextual only [d2,hnl,h0,o1,e0,f0,f1,f2,f3,f4,f5,f6,f7,f8,f9,f10,f11,g11,f12,setD,↓kN,↓kP,push_cast,seval,reduceCtorEq,cI]
   omega
  ·simp +contextual only [hnl,h0,o1,e0,f0,f1,f2,f3,f4,f5,f6,f7,f8,f9,f10,f11,g11,f12,setD,↓kN,↓kP,push_cast,seval,reduceCtorEq,cI]
  ·have d4:=hp 4 (by decide)
   simp +contextual only [d4,hnl,h0,o1,e0,f0,f1,f2,f3,f4,f5,f6,f7,f8,f9,f10,f11,g11,f12,setD,↓kN,↓kP,push_cast,seval,reduceCtorEq,cI]
   omega
  ·have d5:=hp 5 (by decide)
   simp +contextual only [d5,hnl,h0,o1,e0,f0,f1,f2,f3,f4,f5,f6,f7,f8,f9,f10,f11,g11,f12,setD,↓kN,↓kP,push_cast,seval,reduceCtorEq,cI]
  ·have d6:=hp 6 (by decide)
   simp +contextual only [d6,hnl,h0,o1,e0,f0,f1,f2,f3,f4,f5,f6,f7,f8,f9,f10,f11,g11,f12,setD,↓kN,↓kP,push_cast,seval,reduceCtorEq,cI]
  ·have d7:=hp 7 (by decide)
   simp +contextual only [d7,hnl,h0,o1,e0,f0,f1,f2,f3,f4,f5,f6,f7,f8,f9,f10,f11,g11,f12,setD,↓kN,↓kP,push_cast,seval,reduceCtorEq,cI]
   omega
  ·have d0:=hp 0 (by decide)
   have d3:=hp 3 (by decide)
   have d8:=hp 8 (by decide)
   simp +contextual only [d0,d3,d8,hnl,h0,o1,e0,f0,f1,f2,f3,f4,f5,f6,f7,f8,f9,f10,f11,g11,f12,setD,↓kN,↓kP,push_cast,seval,reduceCtorEq,cI]
  ·have d9:=hp 9 (by decide)
   simp +contextual only [d9,hnl,h0,o1,e0,f0,f1,f2,f3,f4,f5,f6,f7,f8,f9,f10,f11,g11,f12,setD,↓kN,↓kP,push_cast,seval,reduceCtorEq,cI]
  ·have n12:=zA2 o1 h0
   simp +contextual only [n12,hnl,h0,o1,e0,f0,f1,f2,f3,f4,f5,f6,f7,f8,f9,f10,f11,g11,f12,setD,↓kN,↓kP,push_cast,seval,reduceCtorEq,cI]
  ·have d10:=hp 10 (by decide)
   have d11:=hp 11 (by decide)
   simp +contextual only [d10,d11,hnl,h0,o1,e0,f0,f1,f2,f3,f4,f5,f6,f7,f8,f9,f10,f11,g11,f12,setD,↓kN,↓kP,push_cast,seval,reduceCtorEq,cI]
 intro D s hD hI
 obtain ⟨o1,e0,f0,f1,f2,f3,f4,f5,f6,f7,f8,f9,f10,f11,g11,f12⟩:=hI
 have v1:=f11 (hD 11 (by decide))
 have v2:=f12 (hD 12 (by decide))
 refine hK _ ?_
 refine zAr (t:=AS.of [(5,.one (.box 5))] [] [(5,.one (.val stSh (c,List.replicate c.length (0:Int),List.replicate (c.getD 0 []).length (0:Int),(0:Int))))]) ?_ ?_
 ·refine zAf ?_ ?_ ?_<;>simp only [v1,v2,push_cast,seval,reduceCtorEq,cI]
  all_goals first|exact ⟨_,rfl⟩|skip
 clear hK hD f0 f1 f2 f3 f4 f5 f6 f7 f8 f9 f10 f11 g11 f12 v1 v2 e0 o1 s D
 have hsz:StateSz (newS c):=(zJ0 hin).sz
 have hsz2:StateSz (c,List.replicate c.length (0:Int),List.replicate (c.getD 0 []).length (0:Int),(0:Int)):=hsz
 have eN:newH c=((),(),c,c,List.replicate c.length (0:Int),List.replicate (c.getD 0 []).length (0:Int),(0:Int),[],ByteArray.empty,()):=rfl
 generalize List.replicate c.length (0:Int)=a at hsz2 eN ⊢
 generalize List.replicate (c.getD 0 []).length (0:Int)=b at hsz2 eN ⊢
 replace hnl:=aa hnl0 (aa he (aG hsz2))
 refine zAb fun K hK=>?_
 refine zB8 hE (fun D s=>(D 6=true->D 5=true) /\
  s.env 5=.one (.box 5) /\
  s.boxes 5=some (.one (.val stSh (c,a,b,(0:Int)))) /\
  (D 0=true->s.env 22=.one (.val stSh (c,a,b,(0:Int)))) /\
  (D 1=true->s.env 23=.one (.val stSh (c,a,b,(0:Int)))) /\
  (D 2=true->s.env 24=.one (.val (.sl (.sl .int)) c)) /\
  (D 3=true->s.env 25=.one (.val stSh (c,a,b,(0:Int)))) /\
  (D 4=true->s.env 26=.rcd [.raw (.int .i32 0),.raw (.int .u32 0),.val (.sl (.sl .int)) c,.val (.sl (.sl .int)) c,.val (.sl .int) a,.val (.sl .int) b,.val .int (0:Int),.nils,.val .str ByteArray.empty]) /\
  (D 5=true->s.env 27=.one (.box 27)) /\
  (D 5=true->s.boxes 27=some (.rcd [.raw (.int .i32 0),.raw (.int .u32 0),.val (.sl (.sl .int)) c,.val (.sl (.sl .int)) c,.val (.sl .int) a,.val (.sl .int) b,.val .int (0:Int),.nils,.val .str ByteArray.empty])) /\
  (D 6=true->s.env 2=.one (.box 27)) /\
  (D 7=true->s.env 3=.one (.val .int 0))) rfl kr ?_ ?_ ?_
 ·dsimp only
  simp only [push_cast,seval,reduceCtorEq,cI]
 ·refine ⟨fun D s h0 hp hI=>?_,fun D s h0 hp hI=>?_,fun D s h0 hp hI=>?_,fun D s h0 hp hI=>?_,fun D s h0 hp hI=>?_,fun D s h0 hp hI=>?_,fun D s h0 hp hI=>?_,fun D s h0 hp hI=>?_,trivial⟩
  all_goals obtain ⟨o1,e5,b5,f0,f1,f2,f3,f4,f5,g5,f6,f7⟩:=hI
  all_goals replace hp:=ay.1 hp
  ·simp +contextual only [hnl,h0,o1,e5,b5,f0,f1,f2,f3,f4,f5,g5,f6,f7,setD,↓kN,↓kP,push_cast,seval,reduceCtorEq,cI]
  ·have d0:=hp 0 (by decide)
   simp +contextual only [d0,hnl,h0,o1,e5,b5,f0,f1,f2,f3,f4,f5,g5,f6,f7,setD,↓kN,↓kP,push_cast,seval,reduceCtorEq,cI]
  ·have d1:=hp 1 (by decide)
   simp +contextual only [d1,hnl,h0,o1,e5,b5,f0,f1,f2,f3,f4,f5,g5,f6,f7,setD,↓kN,↓kP,push_cast,seval,reduceCtorEq,cI]
  ·simp +contextual only [hnl,h0,o1,e5,b5,f0,f1,f2,f3,f4,f5,g5,f6,f7,setD,↓kN,↓kP,push_cast,seval,reduceCtorEq,cI]
  ·have d2:=hp 2 (by decide)
   have d3:=hp 3 (by decide)
   simp +contextual only [d2,d3,hnl,h0,o1,e5,b5,f0,f1,f2,f3,f4,f5,g5,f6,f7,setD,↓kN,↓kP,push_cast,seval,reduceCtorEq,cI]
  ·have d4:=hp 4 (by decide)
   have n6:=zA2 o1 h0
   simp +contextual only [d4,n6,hnl,h0,o1,e5,b5,f0,f1,f2,f3,f4,f5,g5,f6,f7,setD,↓kN,↓kP,push_cast,seval,reduceCtorEq,cI]
  ·have d5:=hp 5 (by decide)
   simp +contextual only [d5,hnl,h0,o1,e5,b5,f0,f1,f2,f3,f4,f5,g5,f6,f7,setD,↓kN,↓kP,push_cast,seval,reduceCtorEq,cI]
  ·simp +contextual only [hnl,h0,o1,e5,b5,f0,f1,f2,f3,f4,f5,g5,f6,f7,setD,↓kN,↓kP,push_cast,seval,reduceCtorEq,cI]
 intro D s hD hI
 obtain ⟨o1,e5,b5,f0,f1,f2,f3,f4,f5,g5,f6,f7⟩:=hI
 have v1:=g5 (hD 5 (by decide))
 have v2:=f6 (hD 6 (by decide))
 have v3:=f7 (hD 7 (by decide))
 refine hK _ ?_
 refine zAr (t:=AS.of [(2,.one (.box 27)),(3,.one (.val .int 0))] [] [(27,.rcd [.raw (.int .i32 0),.raw (.int .u32 0),.val (.sl (.sl .int)) c,.val (.sl (.sl .int)) c,.val (.sl .int) a,.val (.sl .int) b,.val .int (0:Int),.nils,.val .str ByteArray.empty])]) ?_ ?_
 ·refine zAf ?_ ?_ ?_<;>simp only [v1,v2,v3,push_cast,seval,reduceCtorEq,cI]
  all_goals first|exact ⟨_,rfl⟩|skip
 refine zUB 27 27 7 9 (sh:=.str) rfl rfl rfl ?_
 refine zAr (t:=AS.of [(2,.one (.box 27)),(3,.one (.val .int 0))] [] [(27,.rcd [.raw (.int .i32 0),.raw (.int .u32 0),.val (.sl (.sl .int)) c,.val (.sl (.sl .int)) c,.val (.sl .int) a,.val (.sl .int) b,.val .int (0:Int),.mk 27 9 .str [],.val .str ByteArray.empty])]) ?_ ?_
 ·refine zAf ?_ ?_ ?_<;>simp only [push_cast,seval,reduceCtorEq,cI]
 refine zAi ?_
 simp only [hnl,eN,push_cast,seval,reduceCtorEq,cI]
end Go.Proofs.YtekfodeknpnkbaaGreatDoor
namespace Go.Proofs.YtekfodeknpnkbaaGreatDoor
open Go.RowKit Go.VS
@[push_cast] def zRn:Con:=⟨[.obj hFs],fun (x:HX×Unit)=>StateSz (hSt x.1),fun (x:HX×Unit)=>{res:=[.val .int (lst (hSt x.1))],objs:=[(0,⟨hFs,x.1⟩)]}⟩
theorem zMG:FnSpec Tryz.prog 22 zRn:=by
 refine FnSpec.of_tri' (E:=know _ [] [] []) (zAl (kc zES (kc zFo all_nil)) all_nil all_nil) Tryz.func22 rfl rfl kr ?_
 intro C x hE hnl hfit hpre
 simp only [Tryz.ntmps22,Tryz.results22,maxLen,seval,push_cast] at hnl hfit hpre ⊢
 obtain ⟨⟨⟨⟩,⟨⟩,(f:List (List Int)),(c:List (List Int)),(a:List Int),(b:List Int),(w:Int),(ord:List ByteArray),(bk:ByteArray),⟨⟩⟩,_⟩:=x
 dsimp only at hfit hpre ⊢
 have hsz:StateSz (c,a,b,w):=hpre
 replace hnl:=aa hnl (aG hsz)
 simp only [hSt,hBk,lst,push_cast] at hnl ⊢
 repeat' (first|(refine goK (by assumption) ?_; iterate 4 (try clear hK K))|(refine zAb fun K hK=>?_)|((first|refine zAa hE rfl ?_|refine zAi ?_); simp +contextual only [hnl,↓kA,push_cast,seval,reduceCtorEq,cI])|(refine zAg ?_; simp only [thenQ,zAh,if_true,if_false,Nat.reduceEqDiff,reduceCtorEq])|(refine zAe (by rfl) (fun hb=>?_) (fun hb=>?_)<;>(try simp only [bq,reduceCtorEq] at hb)<;>(try omega))|refine andS ?_|fail)
 all_goals rfl
end Go.Proofs.YtekfodeknpnkbaaGreatDoor
namespace Go.Proofs.YtekfodeknpnkbaaGreatDoor
open Go.RowKit Go.VS
theorem zNE {l:List Int} {i n y:Int} (h:chgE l i n y=0) (hi:0<=i) (hl:∀ k,k<l.length->0<=l.getD k 0/\l.getD k 0<=30) :
 (chgL l i n y).length=l.length/\∀ k,k<(chgL l i n y).length->0<=(chgL l i n y).getD k 0/\(chgL l i n y).getD k 0<=30:=by
 have e:chgL l i n y=l.set i.toNat (l.getD i.toNat 0+y):=ah h
 rw [e]
 unfold chgE at h
 split at h
 ·omega
 split at h
 ·omega
 split at h
 ·omega
 split at h
 ·omega
 rename_i h1 h2 h3 h4
 refine ⟨be ..,fun k hk=>?_⟩
 rw [be] at hk
 rw [ab,cn]
 by_cases hik:i.toNat=k
 ·rw [ah hik,ah (by omega),bB]; omega
 ·rw [ae hik,<-ab]; exact hl k hk
theorem zWw {c:List (List Int)} {i:Nat} {r:List Int} (hr:r.length=(c.getD i []).length):wid (c.set i r)=wid c:=by
 unfold wid
 rw [ab,cn]
 by_cases h0:i=0
 ·subst h0
  rw [ah rfl]
  by_cases hc:0<c.length
  ·rw [ah hc,bB,hr]
  ·have:c=[]:=by cases c with|nil=>rfl|cons x l=>simp at hc
   subst this
   rfl
 ·rw [ae h0,<-ab]
theorem zW2 {k:Nat} {l:List Int} {s:State} (h:DoPre k l s) (h0:(doV k l s).1=0):HOK (doV k l s).2:=by
 obtain ⟨c,a,b,w⟩:=s
 obtain ⟨hk,hl,hn,ht,hla,hlb,ha,hb⟩:=h
 dsimp only at *
 have hl1:1<=l.length:=by
  rw [hl]
  repeat' split
  all_goals omega
 have n0:=hn 0 (by omega)
 obtain rfl|rfl|rfl|rfl|rfl|rfl|rfl:k=0\/k=1\/k=2\/k=3\/k=4\/k=5\/k=6:=by omega
 ·obtain ⟨q1,q2⟩:=zNE (show chgE a (l.getD 0 0) (l.getD 1 0) (l.getD 1 0)=0 from h0) n0.1 ha
  exact ⟨ht,q1.trans hla,hlb,q2,hb⟩
 ·obtain ⟨q1,q2⟩:=zNE (show chgE a (l.getD 0 0) (l.getD 1 0) (-(l.getD 1 0))=0 from h0) n0.1 ha
  exact ⟨ht,q1.trans hla,hlb,q2,hb⟩
 ·obtain ⟨q1,q2⟩:=zNE (show chgE b (l.getD 0 0) (l.getD 1 0) (l.getD 1 0)=0 from h0) n0.1 hb
  exact ⟨ht,hla,q1.trans hlb,ha,q2⟩
 ·obtain ⟨q1,q2⟩:=zNE (show chgE b (l.getD 0 0) (l.getD 1 0) (-(l.getD 1 0))=0 from h0) n0.1 hb
  exact ⟨ht,hla,q1.trans hlb,ha,q2⟩
 ·have hl':l.length=3:=hl
  have n1:=hn 1 (by omega)
  have n2:=hn 2 (by omega)
  rw [doV4] at h0 ⊢
  split at h0
  ·simp at h0
  rename_i h1
  split at h0
  ·simp at h0
  rename_i h2
  rw [ae h1,ae h2]
  have hi:(l.getD 0 0).toNat<c.length:=by omega
  have hlr:=ht.len hi
  have hsl:((c.getD (l.getD 0 0).toNat []).set (l.getD 1 0).toNat (l.getD 2 0)).length=(c.getD (l.getD 0 0).toNat []).length:=be ..
  have hw:=zWw (c:=c) (i:=(l.getD 0 0).toNat) hsl
  refine ⟨zJR (by rw [be]; exact ht.rows) (by rw [hw]; exact ht.cols) fun i hi'=>?_,by dsimp only; rw [be]; exact hla,by dsimp only; rw [hw]; exact hlb,ha,hb⟩
  dsimp only at hi' ⊢
  rw [be] at hi'
  rw [hw,ab,cn]
  by_cases hii:(l.getD 0 0).toNat=i
  ·rw [ah hii,ah hi,bB]
   refine ⟨by rw [hsl,hlr],fun j hj=>?_⟩
   rw [ab,cn]
   by_cases hjj:(l.getD 1 0).toNat=j
   ·rw [ah hjj,ah (by omega),bB]; omega
   ·rw [ae hjj,<-ab]; exact ht.at hi hj
  ·rw [ae hii,<-ab]
   exact ⟨ht.len hi',fun j hj=>ht.at hi' hj⟩
 ·rw [doV5] at h0 ⊢
  split at h0
  ·simp at h0
  rename_i h1
  rw [ae h1]
  exact ⟨ht,hla,hlb,ha,hb⟩
 ·rw [doV6] at h0 ⊢
  split at h0
  ·rename_i h1
   rw [ah h1]
   exact ⟨ht,hla,hlb,ha,hb⟩
  ·simp at h0
theorem zLW {bk:ByteArray} {least:Int} {t:ByteArray} (h1:0<=least/\least<=999999) (h2:t.size<=30):(zCs bk least t).size<=bk.size+100:=by
 have hb1:InR least:=by unfold InR; omega
 have q1:=zEQ hb1
 have q4:(textV least t).size=(itoaV least).size+1+t.size:=by unfold textV; rw [zB7,zB7]; rfl
 have q5:=zDT (lastV bk) (textV least t) (textV least t).size
 have q6:InR (sumV (lastV bk) (textV least t)):=by unfold InR sumV; omega
 have q7:=zEQ q6
 have q8:(zCs bk least t).size=bk.size+(itoaV (sumV (lastV bk) (textV least t))).size+1+(textV least t).size+1:=by
  unfold zCs
  rw [zB7,zB7,zB7,zB7]
  rfl
 omega
theorem zQS {x:HX} (h:HInv x) (t:ByteArray):HInv (doX x t):=by
 unfold doX
 split
 ·rename_i h0
  unfold doE at h0
  split at h0
  ·rename_i hok
   split at h0
   ·omega
   rename_i h60
   have hdp:=zNN hok h.st
   have ho:=h.ord
   have hb:=h.bk
   have hsz:t.size<=30:=(zBW.1 hok).1.1.2
   refine ⟨zW2 hdp h0,?_,?_⟩
   ·show (hOrd x++[t]).length<=60
    rw [aL]; simp; omega
   ·show (zCs (hBk x) (lst (doS x t)) t).size<=100*(hOrd x++[t]).length
    have:=zLW (bk:=hBk x) (least:=lst (doS x t)) (t:=t) (zFO _ _ _ _) hsz
    rw [aL]; simp; omega
  ·omega
 ·exact h
end Go.Proofs.YtekfodeknpnkbaaGreatDoor
namespace Go.Proofs.YtekfodeknpnkbaaGreatDoor
open Go.RowKit Go.VS
def knL:List ByteArray:=[⟨#[112,117,116,32,48,32,50]⟩,⟨#[119,97,110,116,32,48,32,49]⟩,⟨#[119,97,115,116,101,32,50]⟩,⟨#[119,97,115,116,101,32,51]⟩,⟨#[99,108,97,105,109,32,56]⟩,⟨#[116,97,107,101,32,48,32,51]⟩]
def knW:List Int:=[0,0,0,0,0,9]
def knX:Nat->HX
 | 0=>newH [[5]]
 | i+1=>doX (knX i) (knL.getD i ByteArray.empty)
theorem zRf:∀ i,HInv (knX i)
 | 0=>zOe (by decide)
 | i+1=>zQS (zRf i) _
theorem zXr:∀ i,i<6->doE (knX i) (knL.getD i ByteArray.empty)=knW.getD i 0:=by decide +kernel
theorem zRg:lst (hSt (knX 6))=8:=by decide +kernel
theorem zN6:zCm [0,1,1,0] [[1,1],[0,2]]=0/\zR4 [0,1,1,0] [[1,1],[0,2]]=[0,1,1,1]:=by decide +kernel
theorem zXs:sumV 0 ⟨#[97]⟩=98:=by decide +kernel
@[push_cast] def zRh:Con:=⟨[],fun _=>True,fun _=>{res:=[.val .bool true]}⟩
set_option maxHeartbeats 8000000 in
theorem zHB:FnSpec Tryz.prog 15 zRh:=by
 refine FnSpec.of_tri' (E:=know _ [] [] []) (zAl (kc zJ1 (kc zNM (kc zPq (kc zMG (kc zPC (kc zIQ all_nil)))))) all_nil all_nil) Tryz.func15 rfl rfl kr ?_
 intro C x hE hnl hfit hpre
 simp only [Tryz.ntmps15,Tryz.results15,maxLen,seval,push_cast] at hnl hfit hpre ⊢
 have he:zAH [[5]]=0:=by decide
 have hnl0:=hnl
 replace hnl:=aa hnl he
 repeat' (first|(refine goK (by assumption) ?_; iterate 4 (try clear hK K))|(refine zAb fun K hK=>?_)|(refine zAa hE rfl ?_; simp +contextual only [hnl,↓kA,push_cast,seval,reduceCtorEq,cI])|refine zAc ?_|(refine zAg ?_; simp only [thenQ,zAh,if_true,if_false,Nat.reduceEqDiff,reduceCtorEq])|(refine zAe (by rfl) (fun hb=>?_) (fun hb=>?_)<;>(try simp only [bq,reduceCtorEq] at hb)<;>(try omega))|refine andS ?_|fail)
 have hp1:=zN6.1
 have hp2:=zN6.2
 have hp3:=zXs
 refine zAk (fun (x:Nat×HX)=>AS.of [(1,.one (.box 11)),(3,.one (.val (.sl .str) knL)),(4,.one (.val (.sl .int) knW)),(5,.I x.1)] [] [(11,(.rcd [.raw (.int .i32 0),.raw (.int .u32 0),.val (.sl (.sl .int)) x.2.2.2.1,.val (.sl (.sl .int)) x.2.2.2.2.1,.val (.sl .int) x.2.2.2.2.2.1,.val (.sl .int) x.2.2.2.2.2.2.1,.val .int x.2.2.2.2.2.2.2.1,.mk 11 9 .str x.2.2.2.2.2.2.2.2.1,.val .str x.2.2.2.2.2.2.2.2.2.1]))]) (fun x=>x.1<=6/\x.2=knX x.1) (fun x=>6 - x.1) (0,newH [[5]]) ⟨by omega,rfl⟩ ?_ ?_
 ·refine zAf ?_ ?_ ?_<;>simp only [push_cast,seval,reduceCtorEq,cI]
  exact ⟨rfl,rfl⟩
 rintro ⟨i,x⟩ ⟨h6,hx⟩ K' hL
 replace hx:x=knX i:=hx
 replace h6:i<=6:=h6
 have hI:HInv x:=by rw [hx]; exact zRf _
 have hl1:knL.length=6:=rfl
 have hl2:knW.length=6:=rfl
 by_cases hi:i<6
 ·have hdo:doE x (knL.getD i ByteArray.empty)=knW.getD i 0:=by rw [hx]; exact zXr i hi
  have hnx:doX x (knL.getD i ByteArray.empty)=knX (i+1):=by rw [hx]; rfl
  replace hnl:=aa hnl0 (aa (aG hI) (aa hdo hl1))
  obtain ⟨⟨⟩,⟨⟩,(f:List (List Int)),(c:List (List Int)),(a:List Int),(b:List Int),(w:Int),(ord:List ByteArray),(bk:ByteArray),⟨⟩⟩:=x
  dsimp only
  repeat' (first|(refine goK (by assumption) ?_; iterate 4 (try clear hK K))|(refine zAb fun K hK=>?_)|(refine zAa hE rfl ?_; simp +contextual only [hnl,↓kA,push_cast,seval,reduceCtorEq,cI])|refine zAc ?_|(refine zAg ?_; simp only [thenQ,zAh,if_true,if_false,Nat.reduceEqDiff,reduceCtorEq])|(refine zAe (by rfl) (fun hb=>?_) (fun hb=>?_)<;>(try simp only [bq,reduceCtorEq] at hb)<;>(try omega))|fail)
  refine zB8 hE (fun D s=>s.env 1=.one (.box 11) /\
   s.env 3=.one (.val (.sl .str) knL) /\
   s.env 4=.one (.val (.sl .int) knW) /\
   s.env 5=.I i /\
   (D 5=false->s.boxes 11=some (.rcd [.raw (.int .i32 0),.raw (.int .u32 0),.val (.sl (.sl .int)) f,.val (.sl (.sl .int)) c,.val (.sl .int) a,.val (.sl .int) b,.val .int w,.mk 11 9 .str ord,.val .str bk])) /\
   (D 5=true->s.boxes 11=some (.rcd [.raw (.int .i32 0),.raw (.int .u32 0),.val (.sl (.sl .int)) (doX ((),(),f,c,a,b,w,ord,bk,()) (knL.getD i ByteArray.empty)).2.2.1,.val (.sl (.sl .int)) (doX ((),(),f,c,a,b,w,ord,bk,()) (knL.getD i ByteArray.empty)).2.2.2.1,.val (.sl .int) (doX ((),(),f,c,a,b,w,ord,bk,()) (knL.getD i ByteArray.empty)).2.2.2.2.1,.val (.sl .int) (doX ((),(),f,c,a,b,w,ord,bk,()) (knL.getD i ByteArray.empty)).2.2.2.2.2.1,.val .int (doX ((),(),f,c,a,b,w,ord,bk,()) (knL.getD i ByteArray.empty)).2.2.2.2.2.2.1,.mk 11 9 .str (doX ((),(),f,c,a,b,w,ord,bk,()) (knL.getD i ByteArray.empty)).2.2.2.2.2.2.2.1,.val .str (doX ((),(),f,c,a,b,w,ord,bk,()) (knL.getD i ByteArray.empty)).2.2.2.2.2.2.2.2.1])) /\
   (D 0=true->s.env 28=.one (.box 11)) /\
   (D 1=true->s.env 29=.one (.val (.sl .str) knL)) /\
   (D 2=true->s.env 30=.I i) /\
   (D 3=true->s.env 31=.one (.padr .str (knL.getD i ByteArray.empty))) /\
   (D 4=true->s.env 32=.one (.val .str (knL.getD i ByteArray.empty))) /\
   (D 5=true->s.env 33=.one (.val .int (knW.getD i 0))) /\
   (D 6=true->s.env 34=.one (.val (.sl .int) knW)) /\
   (D 7=true->s.env 35=.I i) /\
   (D 8=true->s.env 36=.one (.padr .int (knW.getD i 0))) /\
   (D 9=true->s.env 37=.one (.val .int (knW.getD i 0))) /\
   (D 10=true->s.env 38=.one (.val .bool false))) rfl kr ?_ ?_ ?_
  ·dsimp only
   simp only [push_cast,seval,reduceCtorEq,cI]
  ·refine ⟨fun D s h0 hp hI=>?_,fun D s h0 hp hI=>?_,fun D s h0 hp hI=>?_,fun D s h0 hp hI=>?_,fun D s h0 hp hI=>?_,fun D s h0 hp hI=>?_,fun D s h0 hp hI=>?_,fun D s h0 hp hI=>?_,fun D s h0 hp hI=>?_,fun D s h0 hp hI=>?_,fun D s h0 hp hI=>?_,trivial⟩
   all_goals obtain ⟨e1,e3,e4,e5,b0,b1,f0,f1,f2,f3,f4,f5,f6,f7,f8,f9,f10⟩:=hI
   all_goals replace hp:=ay.1 hp
   ·simp +contextual only [hnl,h0,e1,e3,e4,e5,b0,b1,f0,f1,f2,f3,f4,f5,f6,f7,f8,f9,f10,setD,↓kN,↓kP,push_cast,seval,reduceCtorEq,cI]
   ·simp +contextual only [hnl,h0,e1,e3,e4,e5,b0,b1,f0,f1,f2,f3,f4,f5,f6,f7,f8,f9,f10,setD,↓kN,↓kP,push_cast,seval,reduceCtorEq,cI]
   ·simp +contextual only [hnl,h0,e1,e3,e4,e5,b0,b1,f0,f1,f2,f3,f4,f5,f6,f7,f8,f9,f10,setD,↓kN,↓kP,push_cast,seval,reduceCtorEq,cI]
   ·have d1:=hp 1 (by decide)
    have d2:=hp 2 (by decide)
    simp +contextual only [d1,d2,hnl,h0,e1,e3,e4,e5,b0,b1,f0,f1,f2,f3,f4,f5,f6,f7,f8,f9,f10,setD,↓kN,↓kP,push_cast,seval,reduceCtorEq,cI]
    omega
   ·have d3:=hp 3 (by decide)
    simp +contextual only [d3,hnl,h0,e1,e3,e4,e5,b0,b1,f0,f1,f2,f3,f4,f5,f6,f7,f8,f9,f10,setD,↓kN,↓kP,push_cast,seval,reduceCtorEq,cI]
   ·have d0:=hp 0 (by decide)
    have d4:=hp 4 (by decide)
    simp +contextual only [d0,d4,hnl,h0,e1,e3,e4,e5,b0,b1,f0,f1,f2,f3,f4,f5,f6,f7,f8,f9,f10,setD,↓kN,↓kP,push_cast,seval,reduceCtorEq,cI]
   ·simp +contextual only [hnl,h0,e1,e3,e4,e5,b0,b1,f0,f1,f2,f3,f4,f5,f6,f7,f8,f9,f10,setD,↓kN,↓kP,push_cast,seval,reduceCtorEq,cI]
   ·simp +contextual only [hnl,h0,e1,e3,e4,e5,b0,b1,f0,f1,f2,f3,f4,f5,f6,f7,f8,f9,f10,setD,↓kN,↓kP,push_cast,seval,reduceCtorEq,cI]
   ·have d6:=hp 6 (by decide)
    have d7:=hp 7 (by decide)
    simp +contextual only [d6,d7,hnl,h0,e1,e3,e4,e5,b0,b1,f0,f1,f2,f3,f4,f5,f6,f7,f8,f9,f10,setD,↓kN,↓kP,push_cast,seval,reduceCtorEq,cI]
    omega
   ·have d8:=hp 8 (by decide)
    simp +contextual only [d8,hnl,h0,e1,e3,e4,e5,b0,b1,f0,f1,f2,f3,f4,f5,f6,f7,f8,f9,f10,setD,↓kN,↓kP,push_cast,seval,reduceCtorEq,cI]
   ·have d5:=hp 5 (by decide)
    have d9:=hp 9 (by decide)
    simp +contextual only [d5,d9,hnl,h0,e1,e3,e4,e5,b0,b1,f0,f1,f2,f3,f4,f5,f6,f7,f8,f9,f10,setD,↓kN,↓kP,push_cast,seval,reduceCtorEq,cI]
  intro D s hD hI
  obtain ⟨e1,e3,e4,e5,b0,b1,f0,f1,f2,f3,f4,f5,f6,f7,f8,f9,f10⟩:=hI
  have v1:=b1 (hD 5 (by decide))
  have v2:=f10 (hD 10 (by decide))
  refine hK _ ?_
  refine zAr (t:=AS.of [(1,.one (.box 11)),(3,.one (.val (.sl .str) knL)),(4,.one (.val (.sl .int) knW)),(5,.I i),(38,.one (.val .bool false))] [] [(11,(.rcd [.raw (.int .i32 0),.raw (.int .u32 0),.val (.sl (.sl .int)) (doX ((),(),f,c,a,b,w,ord,bk,()) (knL.getD i ByteArray.empty)).2.2.1,.val (.sl (.sl .int)) (doX ((),(),f,c,a,b,w,ord,bk,()) (knL.getD i ByteArray.empty)).2.2.2.1,.val (.sl .int) (doX ((),(),f,c,a,b,w,ord,bk,()) (knL.getD i ByteArray.empty)).2.2.2.2.1,.val (.sl .int) (doX ((),(),f,c,a,b,w,ord,bk,()) (knL.getD i ByteArray.empty)).2.2.2.2.2.1,.val .int (doX ((),(),f,c,a,b,w,ord,bk,()) (knL.getD i ByteArray.empty)).2.2.2.2.2.2.1,.mk 11 9 .str (doX ((),(),f,c,a,b,w,ord,bk,()) (knL.getD i ByteArray.empty)).2.2.2.2.2.2.2.1,.val .str (doX ((),(),f,c,a,b,w,ord,bk,()) (knL.getD i ByteArray.empty)).2.2.2.2.2.2.2.2.1]))]) ?_ ?_
  ·refine zAf ?_ ?_ ?_<;>simp only [e1,e3,e4,e5,v1,v2,push_cast,seval,reduceCtorEq,cI]
   all_goals first|exact ⟨_,rfl⟩|skip
  clear hK hD f0 f1 f2 f3 f4 f5 f6 f7 f8 f9 f10 b0 b1 v1 v2 e1 e3 e4 e5 s D
  repeat' (first|(refine goK (by assumption) ?_; iterate 4 (try clear hK K))|(refine zAa hE rfl ?_; simp +contextual only [hnl,↓kA,push_cast,seval,reduceCtorEq,cI])|(refine zAg ?_; simp only [thenQ,zAh,if_true,if_false,Nat.reduceEqDiff,reduceCtorEq])|(refine zAe (by rfl) (fun hb=>?_) (fun hb=>?_)<;>(try simp only [bq,reduceCtorEq] at hb)<;>(try omega))|refine andS ?_|fail)
  refine hL _ (i+1,doX ((),(),f,c,a,b,w,ord,bk,()) (knL.getD i ByteArray.empty)) ⟨by omega,hnx⟩ (by dsimp only; omega) ?_
  refine zAf ?_ ?_ ?_<;>simp only [push_cast,seval,reduceCtorEq,cI]
 ·obtain rfl:i=6:=by omega
  have hle:lst (hSt x)=8:=by rw [hx]; exact zRg
  have hsz:StateSz (hSt x):=hI.st.sz
  replace hnl:=aa hnl0 (aa hp1 (aa hp2 (aa hp3 (aa (aG hsz) (aa hle hl1)))))
  obtain ⟨⟨⟩,⟨⟩,(f:List (List Int)),(c:List (List Int)),(a:List Int),(b:List Int),(w:Int),(ord:List ByteArray),(bk:ByteArray),⟨⟩⟩:=x
  dsimp only
  exact auA
end Go.Proofs.YtekfodeknpnkbaaGreatDoor
namespace Go.Proofs.YtekfodeknpnkbaaGreatDoor
open Go.RowKit Go.VS
@[push_cast] def zNH:Con:=⟨[.dat (.sl (.sl .int))],fun (x:List (List Int)×Unit)=>Small x.1,fun (x:List (List Int)×Unit)=>{res:=[.val (.sl (.sl .int)) x.1]}⟩
theorem zMX:FnSpec Tryz.prog 95 zNH:=by
 refine FnSpec.of_tri' (E:=know [] [] [] [12]) (zAl all_nil all_nil all_nil) Tryz.func95 rfl rfl kr ?_
 intro C x hE hnl hfit hpre
 simp only [Tryz.ntmps95,Tryz.results95,maxLen,seval,push_cast] at hnl hfit hpre ⊢
 obtain ⟨(p:List (List Int)),_⟩:=x
 dsimp only at hfit hpre ⊢
 have hl:=hpre.1
 repeat' (first|(refine goK (by assumption) ?_; iterate 4 (try clear hK K))|(refine zAb fun K hK=>?_)|(refine zAa hE rfl ?_; simp +contextual only [hnl,↓kA,push_cast,seval,reduceCtorEq,cI])|refine zAc ?_|fail)
 refine zAk (fun i:Nat=>AS.of [(0,.one (.val (.sl (.sl .int)) p)),(3,.one (.ref 19)),(4,.I i)] [(19,.deep 38 3 .int (tbl i fun r=>p.getD r []))] []) (fun i=>i<=p.length) (fun i=>p.length - i) 0 (aq _) ?_ ?_
 ·refine zAf ?_ ?_ ?_<;>simp only [push_cast,seval,reduceCtorEq,cI]
  exact ⟨by omega,zHf _⟩
 intro i hi K' hL
 replace hnl:=aa hnl (zAY i fun r=>p.getD r [])
 have hrow:=@Small.row p hpre i
 rcases ai i p.length with h|h
 ·have hrow:=hrow h
  repeat' (first|(refine goK (by assumption) ?_; iterate 4 (try clear hK K))|(refine zAb fun K hK=>?_)|(refine zAa hE rfl ?_; simp +contextual only [hnl,↓kA,push_cast,seval,reduceCtorEq,cI])|refine zAc ?_|(refine zAg ?_; simp only [thenQ,zAh,if_true,if_false,Nat.reduceEqDiff,reduceCtorEq])|(refine zAe (by rfl) (fun hb=>?_) (fun hb=>?_)<;>(try simp only [bq,reduceCtorEq] at hb)<;>(try omega))|refine andS ?_|fail)
  refine hL _ (i+1) (by omega) (by omega) ?_
  refine zAf ?_ ?_ ?_<;>simp only [push_cast,seval,reduceCtorEq,cI]
  left
  rw [zEb]
 ·obtain rfl:i=p.length:=by omega
  repeat' (first|(refine zAr (t:=AS.of [(2,.one (.val (.sl (.sl .int)) p))] [] []) ?_ (Stop.h ?_); · (refine zAf ?_ ?_ ?_<;>simp only [push_cast,seval,reduceCtorEq,cI]; rw [<-zJY p []]))|(first|(refine goK (by assumption) ?_; iterate 4 (try clear hK K))|(refine zAb fun K hK=>?_)|((first|refine zAa hE rfl ?_|refine zAi ?_); simp +contextual only [hnl,↓kA,push_cast,seval,reduceCtorEq,cI])|refine zAc ?_|((first|refine zAg ?_|refine zAj ?_); simp only [thenQ,zAh,if_true,if_false,Nat.reduceEqDiff,reduceCtorEq])|(refine zAe (by rfl) (fun hb=>?_) (fun hb=>?_)<;>(try simp only [bq,reduceCtorEq] at hb)<;>(try omega))|refine zAF (by rfl) ?_ ?_|refine andS ?_|(refine ⟨fun hc=>?_,fun hc=>?_⟩)|(intro hc; try omega)))
  refine ⟨?_⟩
  exact auA
abbrev rFs:List Go.VS.Fd:=[.val (.sl (.sl .int)),.val (.sl .int),.val (.sl .int),.val .int,.val .int,.val (.sl (.prod .str .int))]
abbrev RX:=FdT rFs
def mkR (s:State) (least:Int) (l:List Line):RX:=(s.1,s.2.1,s.2.2.1,s.2.2.2,least,l,())
def newR (c:List (List Int)):RX:=mkR (newS c) 0 []
@[push_cast] def zV2:Con:=⟨[.sdat (.sl (.sl .int))],fun _=>True,fun (x:List (List Int)×Unit)=>if zAH x.1=0 then {res:=[.obj ⟨rFs,newR x.1⟩,.val .int 0]} else {res:=[.raw (.pointer none),.val .int (zAH x.1)]}⟩
set_option maxHeartbeats 4000000 in
theorem zK5:FnSpec Tryz.prog 49 zV2:=by
 refine FnSpec.of_tri' (E:=knowZ [14,19] [(94,zHs),(95,zNH)]) (zN7 (all_cons zGq (all_cons zMX all_nil))) Tryz.func49 rfl rfl kr ?_
 intro C x hE hnl hfit hpre
 simp only [Tryz.ntmps49,Tryz.results49,maxLen,seval,push_cast] at hnl hfit hpre ⊢
 obtain ⟨(c:List (List Int)),_⟩:=x
 dsimp only at hfit hpre ⊢
 by_cases he:zAH c=0
 rotate_left
 ·replace hnl:=aa hnl (aB he)
  exact auA
 have hin:=zCa he
 have hr:=hin.rows
 have hcl:1<=(c.getD 0 []).length/\(c.getD 0 []).length<=5:=hin.cols
 have hsm:Small c:=⟨by omega,fun r hr'=>by
  obtain ⟨i,hi,rfl⟩:=aN hr'
  have h:=hin.len hi
  have e:c.getD i []=c[i]:=by rw [ab,aj hi]; rfl
  rw [e] at h
  have h2:wid c<=5:=hin.cols.2
  omega⟩
 replace hnl:=aa hnl (aa he (aG hsm))
 repeat' (first|(refine goK (by assumption) ?_; iterate 4 (try clear hK K))|(refine zAb fun K hK=>?_)|(refine zAa hE rfl ?_; simp +contextual only [hnl,↓kA,push_cast,seval,reduceCtorEq,cI])|(refine zAg ?_; simp only [thenQ,zAh,if_true,if_false,Nat.reduceEqDiff,reduceCtorEq])|(refine zAe (by rfl) (fun hb=>?_) (fun hb=>?_)<;>(try simp only [bq,reduceCtorEq] at hb)<;>(try omega))|fail)
 refine zB8 hE (fun D s=>(D 12=true->D 11=true) /\
  s.env 0=.one (.val (.sl (.sl .int)) c) /\
  (D 0=true->s.env 10=.one (.val (.sl (.sl .int)) c)) /\
  (D 1=true->s.env 11=.one (.val (.sl (.sl .int)) c)) /\
  (D 2=true->s.env 12=.one (.val (.sl (.sl .int)) c)) /\
  (D 3=true->s.env 13=.I (c.length:Nat)) /\
  (D 4=true->s.env 14=.one (.val (.sl .int) (List.replicate c.length (0:Int)))) /\
  (D 5=true->s.env 15=.one (.val (.sl (.sl .int)) c)) /\
  (D 6=true->s.env 16=.one (.padr (.sl .int) (c.getD 0 []))) /\
  (D 7=true->s.env 17=.one (.val (.sl .int) (c.getD 0 []))) /\
  (D 8=true->s.env 18=.I ((c.getD 0 []).length:Nat)) /\
  (D 9=true->s.env 19=.one (.val (.sl .int) (List.replicate (c.getD 0 []).length (0:Int)))) /\
  (D 10=true->s.env 20=(.rcd [.val (.sl (.sl .int)) c,.val (.sl .int) (List.replicate c.length (0:Int)),.val (.sl .int) (List.replicate (c.getD 0 []).length (0:Int)),.val .int (0:Int),.val .int (0:Int),.nils])) /\
  (D 11=true->s.env 21=.one (.box 21)) /\
  (D 11=true->s.boxes 21=some (.rcd [.val (.sl (.sl .int)) c,.val (.sl .int) (List.replicate c.length (0:Int)),.val (.sl .int) (List.replicate (c.getD 0 []).length (0:Int)),.val .int (0:Int),.val .int (0:Int),.nils])) /\
  (D 12=true->s.env 2=.one (.box 21)) /\
  (D 13=true->s.env 3=.one (.val .int 0))) rfl kr ?_ ?_ ?_
 ·dsimp only
  simp only [push_cast,seval,reduceCtorEq,cI]
 ·iterate 14 refine tI ?_ fun D s h0 hp hI=>?_
  exact trivial
  all_goals obtain ⟨o1,e0,f0,f1,f2,f3,f4,f5,f6,f7,f8,f9,f10,f11,g11,f12,f13⟩:=hI
  all_goals (try simp [preds,Region.binds] at hp)
  all_goals (try have n0x:=zA2 o1 h0)
  all_goals (simp +contextual only [*,setD,↓kN,↓kP,push_cast,seval,reduceCtorEq,cI])
  all_goals first|omega|(refine aa ?_ ?_<;>omega)|rfl
 intro D s hD hI
 obtain ⟨o1,e0,f0,f1,f2,f3,f4,f5,f6,f7,f8,f9,f10,f11,g11,f12,f13⟩:=hI
 have v1:=g11 (hD 11 (by decide))
 have v2:=f12 (hD 12 (by decide))
 have v3:=f13 (hD 13 (by decide))
 refine hK _ ?_
 refine zAr (t:=AS.of [(2,.one (.box 21)),(3,.one (.val .int 0))] [] [(21,(.rcd [.val (.sl (.sl .int)) c,.val (.sl .int) (List.replicate c.length (0:Int)),.val (.sl .int) (List.replicate (c.getD 0 []).length (0:Int)),.val .int (0:Int),.val .int (0:Int),.val (.sl (.prod .str .int)) ([]:List Line)]))]) ?_ ?_
 ·refine zAf ?_ ?_ ?_<;>simp only [v1,v2,v3,push_cast,seval,reduceCtorEq,cI]
  all_goals first|exact ⟨_,rfl⟩|skip
 refine zAi ?_
 simp only [hnl,newR,mkR,newS,push_cast,seval,reduceCtorEq,cI]
end Go.Proofs.YtekfodeknpnkbaaGreatDoor
namespace Go.Proofs.YtekfodeknpnkbaaGreatDoor
open Go.RowKit Go.VS
def rLn (x:RX):List Line:=x.2.2.2.2.2.1
end Go.Proofs.YtekfodeknpnkbaaGreatDoor
namespace Go.Proofs.YtekfodeknpnkbaaGreatDoor
open Go.RowKit Go.VS
@[push_cast] def zS3:Con:=⟨[.sdat (.sl (.sl .int))],fun _=>True,fun (x:List (List Int)×Unit)=>if zAH x.1=0 then {res:=[.obj ⟨hFs,newH x.1⟩,.obj ⟨rFs,newR x.1⟩,.val .bool true]} else {res:=[.raw (.pointer none),.raw (.pointer none),.val .bool false]}⟩
theorem zIv:FnSpec Tryz.prog 16 zS3:=by
 refine FnSpec.of_tri' (E:=know _ [] [] []) (zAl (kc zJ1 (kc zK5 all_nil)) all_nil all_nil) Tryz.func16 rfl rfl kr ?_
 intro C x hE hnl hfit hpre
 simp only [Tryz.ntmps16,Tryz.results16,maxLen,seval,push_cast] at hnl hfit hpre ⊢
 obtain ⟨(c:List (List Int)),_⟩:=x
 dsimp only at hfit hpre ⊢
 by_cases he:zAH c=0
 ·replace hnl:=aa hnl he
  exact auA
 ·replace hnl:=aa hnl (aB he)
  exact auA
@[push_cast] def zQ1:Con:=⟨[.sdat (.sl (.sl .int))],fun _=>True,fun (x:List (List Int)×Unit)=>{res:=[.val .bool (decide (¬zAH x.1=0))]}⟩
theorem zMw:FnSpec Tryz.prog 17 zQ1:=by
 refine FnSpec.of_tri' (E:=know _ [] [] []) (zAl (kc zJ1 (kc zK5 (kc zHB all_nil))) all_nil all_nil) Tryz.func17 rfl rfl kr ?_
 intro C x hE hnl hfit hpre
 simp only [Tryz.ntmps17,Tryz.results17,maxLen,seval,push_cast] at hnl hfit hpre ⊢
 obtain ⟨(c:List (List Int)),_⟩:=x
 dsimp only at hfit hpre ⊢
 by_cases he:zAH c=0
 ·replace hnl:=aa hnl he
  repeat' (first|(refine goK (by assumption) ?_; iterate 4 (try clear hK K))|(refine zAb fun K hK=>?_)|((first|refine zAa hE rfl ?_|refine zAi ?_); simp +contextual only [hnl,↓kA,push_cast,seval,reduceCtorEq,cI])|fail)
  simp
 ·replace hnl:=aa hnl (aB he)
  exact auA
end Go.Proofs.YtekfodeknpnkbaaGreatDoor
namespace Go.Proofs.YtekfodeknpnkbaaGreatDoor
open Go.RowKit Go.VS
theorem zDp (s:ByteArray) (c:UInt8):zAx s ⟨#[c]⟩=if zAM s c.toNat=true then rcut1 s c.toNat::zAx (rcut2 s c.toNat) ⟨#[c]⟩ else [s]:=by
 have hi:Lib.indexB s ⟨#[c]⟩=if zAM s c.toNat=true then (cutI s c.toNat:Int) else -1:=zKO s c
 by_cases h:zAM s c.toNat=true
 ·rw [ah h] at hi
  rw [ah h]
  unfold zAx
  rw [Lib.countB_hit s _ _ (ap _) hi,Nat.add_comm,Lib.splitB_hit _ 0 _ s _ hi]
  have e1:rcut1 s c.toNat=s.extract 0 (cutI s c.toNat+0):=by unfold rcut1; rw [ah h]; rfl
  have e2:rcut2 s c.toNat=s.extract (cutI s c.toNat+(⟨#[c]⟩:ByteArray).size) s.size:=by unfold rcut2; rw [ah h]; rfl
  rw [e1,e2]
 ·rw [ae h] at hi
  rw [ae h]
  unfold zAx
  rw [Lib.countB_miss s _ hi,Lib.splitB_zero]
theorem zH8:∀ (n:Nat) (s:ByteArray),s.size<=n->zAx s spS=zBk s
 | 0,s,h=>by
  have e:=zDp s 32
  have e':zAx s spS=if zAM s 32=true then rcut1 s 32::zAx (rcut2 s 32) spS else [s]:=e
  rw [e',zGb]
  by_cases hh:zAM s 32=true
  ·have:=zHd hh; omega
  ·rw [ae hh,ae hh]
 | n+1,s,h=>by
  have e:=zDp s 32
  have e':zAx s spS=if zAM s 32=true then rcut1 s 32::zAx (rcut2 s 32) spS else [s]:=e
  rw [e',zGb]
  by_cases hh:zAM s 32=true
  ·have:=zHd hh
   rw [ah hh,ah hh,zH8 n _ (by omega)]
  ·rw [ae hh,ae hh]
theorem zLD (t:ByteArray):zAx t spS=zBk t:=zH8 _ t (ap _)
theorem hw_eq (t:ByteArray) (i:Nat):hw t i=zAz t i:=by unfold hw zAz; rw [zLD]
theorem zJQ (s:ByteArray):zEu s=true↔zBu s=true/\numRV s<=99999:=by
 have e:zEu s=numV s 99999:=by unfold zEu numV; simp only [Bool.and_assoc]
 rw [e,zXP (by omega),av,au]
theorem zGg:∀ p∈formsL,smHas formsL p.1=true/\smGet formsL p.1=p.2/\numsV p.1=p.2.2:=by
 intro p hp
 simp only [formsL,aI,bA,or_false] at hp
 rcases hp with rfl|rfl|rfl|rfl|rfl|rfl|rfl<;>exact ⟨by decide +kernel,by decide +kernel,by decide +kernel⟩
theorem zIN {k:ByteArray} (h:smHas formsL k=true):∃ p∈formsL,p.1=k:=by
 unfold smHas at h
 cases hf:formsL.find? (fun p=>decide (p.1=k)) with
 | none=>rw [hf] at h; cases h
 | some p =>
  have h2:=List.find?_some (p:=fun p:ByteArray×Int×Int=>decide (p.1=k)) hf
  exact ⟨p,List.mem_of_find?_eq_some hf,bg h2⟩
theorem zO5 {k:ByteArray} (h:¬smHas formsL k=true):numsV k = -1:=by
 have hn:∀ p∈formsL,¬p.1=k:=fun p hp e=>h (by rw [<-e]; exact (zGg p hp).1)
 unfold numsV
 rw [ae,ae,ae]
 ·rintro (e|e)
  ·exact hn (zHP,5,1) (by simp [formsL]) e.symm
  ·exact hn (zHO,6,1) (by simp [formsL]) e.symm
 ·exact fun e=>hn (pCost,4,3) (by simp [formsL]) e.symm
 ·rintro (e|e|e|e)
  ·exact hn (pPut,0,2) (by simp [formsL]) e.symm
  ·exact hn (pTake,1,2) (by simp [formsL]) e.symm
  ·exact hn (pWant,2,2) (by simp [formsL]) e.symm
  ·exact hn (pDrop,3,2) (by simp [formsL]) e.symm
theorem hp_eq (t:ByteArray):hpOK t=zDB t:=by
 rw [Bool.eq_iff_iff,zBW,zDk,zLD]
 have hpos:=zJs t
 have e0:hform t=smGet formsL (zAz t 0):=by unfold hform; rw [hw_eq]
 have e1:(∀ i,i<(zBk t).length - 1->zEu (hw t (i+1))=true)↔∀ i,i<(zBk t).length - 1->zBu (zAz t (i+1))=true/\numRV (zAz t (i+1))<=99999 :=
  ⟨fun h i hi=>by have:=h i hi; rwa [hw_eq,zJQ] at this,fun h i hi=>by rw [hw_eq,zJQ]; exact h i hi⟩
 rw [e1,hw_eq,e0]
 by_cases hs:smHas formsL (zAz t 0)=true
 ·obtain ⟨p,hp,hk⟩:=zIN hs
  obtain ⟨_,q2,q3⟩:=zGg p hp
  rw [hk] at q2 q3
  rw [q2,q3]
  constructor
  ·rintro ⟨⟨h1,_,h2⟩,h3⟩
   exact ⟨h1,by omega,h3⟩
  ·rintro ⟨h1,h2,h3⟩
   exact ⟨⟨h1,hs,by omega⟩,h3⟩
 ·have q:=zO5 hs
  constructor
  ·rintro ⟨⟨_,h,_⟩,_⟩
   exact absurd h hs
  ·rintro ⟨_,h,_⟩
   rw [q] at h
   omega
theorem zTq {t:ByteArray} (h:hpOK t=true):hargs t=zGL t:=by
 unfold hargs zGL zIP argsK
 rw [zLD]
 refine zAE fun i hi=>?_
 have:=(zBW.1 h).2 i (by rw [zLD]; exact hi)
 rw [hw_eq] at this ⊢
 exact zK7 ((zJQ _).1 this).1
def kName (k:Nat):ByteArray:=(formsL.getD k (pPut,0,2)).1
theorem kname {t:ByteArray} (h:hpOK t=true):hkind t<=6/\zAz t 0=kName (hkind t):=by
 obtain ⟨p,hp,hk⟩:=zIN (zBW.1 h).1.2.1
 have q2:=(zGg p hp).2.1
 have e0:hform t=smGet formsL (hw t 0):=rfl
 rw [hk,<-e0] at q2
 rw [hw_eq] at hk
 unfold hkind
 rw [q2,<-hk]
 simp only [formsL,aI,bA,or_false] at hp
 rcases hp with rfl|rfl|rfl|rfl|rfl|rfl|rfl<;>exact ⟨by decide,rfl⟩
def NoB (c:Nat) (s:ByteArray):Prop:=∀ i,i<s.size->byteV s i≠c
theorem zC7 {a b:ByteArray} {i:Nat} (h:i<a.size):byteV (a++b) i=byteV a i:=by
 have hl:a.data.toList.length=a.size:=by rw [ax]; rfl
 unfold byteV
 rw [ct,ck,ab,bd (by omega),<-ab]
theorem zHl {a b:ByteArray} {i:Nat} (h:a.size<=i):byteV (a++b) i=byteV b (i - a.size):=by
 have hl:a.data.toList.length=a.size:=by rw [ax]; rfl
 unfold byteV
 rw [ct,ck,ab,a8 (by omega),hl,<-ab]
theorem NoB.app {c:Nat} {a b:ByteArray} (ha:NoB c a) (hb:NoB c b):NoB c (a++b):=by
 intro i hi
 rw [cM] at hi
 rcases ai i a.size with h|h
 ·rw [zC7 h]; exact ha i h
 ·rw [zHl h]; exact hb _ (by omega)
theorem zVm {s:ByteArray} {y i:Nat} (hi:i<s.size) (h1:byteV s i=y) (h2:∀ j,j<i->byteV s j≠y):cutI s y=i:=by
 obtain ⟨q1,q2,_,q4⟩:=zBc s y s.size 0 (by omega)
 have e:zCR s y s.size 0=cutI s y:=rfl
 rw [e] at q1 q2 q4
 rcases Nat.lt_trichotomy (cutI s y) i with h|h|h
 ·exact absurd (q2 (by omega)) (h2 _ h)
 ·exact h
 ·exact absurd h1 (q1 i (aq _) h)
theorem zML {s:ByteArray} {y:Nat} (h:NoB y s):¬zAM s y=true:=by
 intro hh
 have hh':cutI s y<s.size:=bg hh
 exact h _ hh' ((zBc s y s.size 0 (by omega)).2.1 hh')
theorem zVJ {s:ByteArray} {y:Nat} (h:¬zAM s y=true):NoB y s:=by
 intro i hi e
 have hh:¬cutI s y<s.size:=fun e=>h (aD e)
 exact (zBc s y s.size 0 (by omega)).1 i (aq _) (by unfold cutI at hh; omega) e
theorem zFh {a b:ByteArray} {c:UInt8} (h:NoB c.toNat a):zAM (a++⟨#[c]⟩++b) c.toNat=true/\rcut1 (a++⟨#[c]⟩++b) c.toNat=a/\rcut2 (a++⟨#[c]⟩++b) c.toNat=b:=by
 have h1:(⟨#[c]⟩:ByteArray).size=1:=rfl
 have hsz:(a++⟨#[c]⟩++b).size=a.size+1+b.size:=by rw [cM,cM,h1]
 have hl:a.data.toList.length=a.size:=by rw [ax]; rfl
 have hlb:b.data.toList.length=b.size:=by rw [ax]; rfl
 have hs1:(a++⟨#[c]⟩).size=a.size+1:=by rw [cM,h1]
 have hi:cutI (a++⟨#[c]⟩++b) c.toNat=a.size:=by
  refine zVm (by omega) ?_ fun j hj=>?_
  ·rw [zC7 (by omega),zHl (ap _),Nat.sub_self]; rfl
  ·rw [zC7 (by omega),zC7 hj]; exact h j hj
 have hh:zAM (a++⟨#[c]⟩++b) c.toNat=true:=aD (by omega)
 have hL:(a++⟨#[c]⟩++b).data.toList=a.data.toList++(c::b.data.toList):=by
  rw [ct,ck,ct,ck,cm]; rfl
 refine ⟨hh,zE9 ?_,zE9 ?_⟩
 ·unfold rcut1
  rw [ah hh,zCo,hi,hL,ar,Nat.sub_zero,<-hl,List.take_left']
  rfl
 ·unfold rcut2
  rw [ah hh,zCo,hi,hL,hsz,<-hl]
  have e:List.drop (a.data.toList.length+1) (a.data.toList++c::b.data.toList)=b.data.toList:=by
   rw [List.drop_append,cE (by omega)]
   simp
  rw [e,aS (by omega)]
theorem zS9 {s:ByteArray} {c:UInt8} (h:zAM s c.toNat=true):NoB c.toNat (rcut1 s c.toNat)/\rcut1 s c.toNat++⟨#[c]⟩++rcut2 s c.toNat=s:=by
 refine ⟨fun i hi=>?_,zJI h⟩
 have hj:=zJI h
 have hh:cutI s c.toNat<s.size:=bg h
 have hz:(rcut1 s c.toNat).size=cutI s c.toNat:=by unfold rcut1; rw [ah h,cH]; omega
 have e:byteV (rcut1 s c.toNat) i=byteV s i:=by
  conv=>rhs; rw [<-hj,zC7 (by rw [cM]; omega),zC7 hi]
 rw [e]
 exact (zBc s c.toNat s.size 0 (by omega)).1 i (aq _) (by unfold cutI at hz; omega)
theorem zSU {y:Nat} (hy:y≠32):∀ (n:Nat) (s:ByteArray),s.size<=n->(∀ w∈zBk s,NoB y w)->NoB y s:=by
 intro n
 induction n with
 | zero=>intro s hs _ i hi; omega
 | succ n ih =>
  intro s hs hw
  by_cases hh:zAM s 32=true
  ·rw [zGb,ah hh] at hw
   have hj:rcut1 s 32++⟨#[32]⟩++rcut2 s 32=s:=zJI (c:=32) hh
   rw [<-hj]
   refine ((hw _ (bJ ..)).app fun i hi=>?_).app (ih _ (by have:=zHd hh; omega) fun w hm=>hw w (bh _ hm))
   have hi':i<1:=hi
   obtain rfl:i=0:=by omega
   exact fun e=>hy e.symm
  ·rw [zGb,ae hh] at hw
   exact hw s (aX.2 rfl)
theorem zV5 {s:ByteArray} (h:zBu s=true) {y:Nat} (hy:y<48):NoB y s:=by
 rw [zBu,av] at h
 intro i hi e
 have:=zDe.1 h.2 i hi
 omega
theorem zR1 {t:ByteArray} (h:hpOK t=true):NoB 10 t:=by
 refine zSU (by decide) _ t (ap _) fun w hw=>?_
 obtain ⟨i,hi,rfl⟩:=aN hw
 have e:(zBk t)[i]=zAz t i:=by unfold zAz; rw [ab,aj hi]; rfl
 rw [e]
 rcases Nat.eq_zero_or_pos i with rfl|hp
 ·obtain ⟨k6,kn⟩:=kname h
  rw [kn]
  generalize hkind t=k at k6
  have:∀ k,k<7->∀ i,i<(kName k).size->byteV (kName k) i≠10:=by decide +kernel
  exact this k (by omega)
 ·have:=(zBW.1 h).2 (i - 1) (by rw [zLD]; omega)
  rw [show i - 1+1=i by omega,hw_eq,zJQ] at this
  exact zV5 this.1 (by decide)
end Go.Proofs.YtekfodeknpnkbaaGreatDoor
namespace Go.Proofs.YtekfodeknpnkbaaGreatDoor
open Go.RowKit Go.VS
def lsum' (s:Int) (x:Line):Int:=sumV s (textV x.2 x.1)
def bkF:Int->List Line->ByteArray
 | _,[]=>ByteArray.empty
 | s,x::L=>lineV s x++nlS++bkF (lsum' s x) L
def bsF:Int->List Line->Int
 | s,[]=>s
 | s,x::L=>bsF (lsum' s x) L
theorem zG3:∀ (L:List Line) (s:Int) (x:Line),bkF s (L++[x])=bkF s L++lineV (bsF s L) x++nlS
 | [],s,x=>by
  show lineV s x++nlS++ByteArray.empty=ByteArray.empty++lineV s x++nlS
  rw [ByteArray.append_empty,ByteArray.empty_append]
 | y::L,s,x=>by
  show lineV s y++nlS++bkF (lsum' s y) (L++[x])=lineV s y++nlS++bkF (lsum' s y) L++lineV (bsF (lsum' s y) L) x++nlS
  rw [zG3 L]
  simp only [ByteArray.append_assoc]
theorem zJz:∀ (L:List Line) (s:Int) (x:Line),bsF s (L++[x])=lsum' (bsF s L) x
 | [],_,_=>rfl
 | y::L,s,x=>zJz L (lsum' s y) x
theorem zU2 (l:List Line):∀ k,k<=l.length->wrK l k=(bkF 0 (l.take k),bsF 0 (l.take k))
 | 0,_=>rfl
 | k+1,h=>by
  have ih:=zU2 l k (by omega)
  have e:l.getD k (ByteArray.empty,0)=l[k]:=by rw [ab,aj h]; rfl
  rw [bb h,zG3,zJz,<-e]
  unfold wrK
  rw [ih]
  dsimp only
  rw [ByteArray.append_assoc]
  rfl
theorem wr_bk (l:List Line):(wrK l l.length).1=bkF 0 l:=by rw [zU2 l _ (ap _),bS]
structure LineOK (x:Line):Prop where
 size:1<=x.1.size/\x.1.size<=30
 noB:NoB 10 x.1
 least:0<=x.2/\x.2<=999999
theorem LineOK.pre {x:Line} (h:LineOK x):LinePre x:=⟨by have:=h.size; omega,by have:=h.least; unfold InR; omega⟩
theorem zNi (s:Int) (t:ByteArray):0<=sumV s t/\sumV s t<=1000002:=zDT s t t.size
theorem zFK {v:Int} (h0:0<=v) {y:Nat} (hy:y<48):NoB y (itoaV v):=by
 have hL:(itoaV v).data.toList=Lib.decDigits v.toNat:=by
  rw [zGi]
  have:=Lib.itoa_nonneg v.toNat
  rwa [bG h0] at this
 have hs:(itoaV v).size=(Lib.decDigits v.toNat).length:=by rw [<-hL,ax]; rfl
 intro i hi e
 unfold byteV at e
 rw [hL,ab,aj (by omega)] at e
 have:=zHt v.toNat _ (List.getElem_mem (by omega:i<(Lib.decDigits v.toNat).length))
 have e':((Lib.decDigits v.toNat)[i]).toNat=y:=e
 omega
theorem zU1 {y:Nat} (hy:y≠32):NoB y spS:=by
 intro i hi e
 have hi':i<1:=hi
 obtain rfl:i=0:=by omega
 exact hy e.symm
theorem zUu {x:Line} (h:LineOK x):NoB 10 (textV x.2 x.1):=((zFK h.least.1 (by decide)).app (zU1 (by decide))).app h.noB
theorem zJX {s:Int} {x:Line} (h:LineOK x):NoB 10 (lineV s x):=((zFK (zNi s _).1 (by decide)).app (zU1 (by decide))).app (zUu h)
theorem zPO:∀ (n:Nat) (b l:ByteArray),b.size<=n->NoB 10 l->(zAx (b++nlS++l) nlS).getLast?=some l:=by
 intro n
 induction n with
 | zero =>
  intro b l hb hl
  obtain ⟨q1,q2,q3⟩:=zFh (a:=b) (b:=l) (c:=10) (fun i hi=>by omega)
  have e:zAx (b++nlS++l) nlS=_:=zDp (b++nlS++l) 10
  have hq:zAM (b++nlS++l) (10:UInt8).toNat=true:=q1
  have hq3:rcut2 (b++nlS++l) (10:UInt8).toNat=l:=q3
  rw [e,ah hq,hq3,zDp,ae (show ¬zAM l (10:UInt8).toNat=true from zML hl)]
  rfl
 | succ n ih =>
  intro b l hb hl
  have e:zAx (b++nlS++l) nlS=_:=zDp (b++nlS++l) 10
  by_cases hh:zAM b (10:UInt8).toNat=true
  ·obtain ⟨k1,k2⟩:=zS9 hh
   have hb2:=zHd hh
   have ha:b++nlS++l=rcut1 b (10:UInt8).toNat++⟨#[10]⟩++(rcut2 b (10:UInt8).toNat++nlS++l):=by
    conv=>lhs; rw [<-k2]
    simp only [ByteArray.append_assoc]
   obtain ⟨q1,q2,q3⟩:=zFh (b:=rcut2 b (10:UInt8).toNat++nlS++l) k1
   rw [<-ha] at q1 q3
   have hi:=ih (rcut2 b (10:UInt8).toNat) l (by omega) hl
   rw [e,ah q1,q3]
   cases hs:zAx (rcut2 b (10:UInt8).toNat++nlS++l) nlS with
   | nil=>rw [hs] at hi; cases hi
   | cons x m =>
    rw [hs] at hi
    show (rcut1 _ _::zAx (rcut2 b (10:UInt8).toNat++nlS++l) nlS).getLast?=some l
    rw [hs,List.getLast?_cons_cons]
    exact hi
  ·obtain ⟨q1,q2,q3⟩:=zFh (a:=b) (b:=l) (c:=10) (zVJ hh)
   have hq:zAM (b++nlS++l) (10:UInt8).toNat=true:=q1
   have hq3:rcut2 (b++nlS++l) (10:UInt8).toNat=l:=q3
   rw [e,ah hq,hq3,zDp,ae (show ¬zAM l (10:UInt8).toNat=true from zML hl)]
   rfl
theorem zQ8 {α:Type} {l:List α} {x d:α} (h:l.getLast?=some x):l.getD ((l.length:Int) - 1).toNat d=x:=by
 rw [List.getLast?_eq_getElem?] at h
 rw [show ((l.length:Int) - 1).toNat=l.length - 1 by omega,ab,h]
 rfl
theorem zWr (b:ByteArray):trimV (b++nlS) nlS=b:=by
 unfold trimV
 refine zE9 ?_
 show Lib.trimSuffix (b++nlS).data.toList nlS.data.toList=_
 rw [ct,ck]
 have hl:b.data.toList.length=b.size:=by rw [ax]; rfl
 show Lib.trimSuffix (b.data.toList++[10]) [10]=_
 have hs:Lib.hasSuffix (b.data.toList++[10]) [10]=true:=by simp [Lib.hasSuffix]
 rw [Lib.trimSuffix,ah hs]
 simp
theorem zRk {b:ByteArray} {s:Int} {x:Line} (hb:b=ByteArray.empty\/∃ b',b=b'++nlS) (h:LineOK x):lastV (b++lineV s x++nlS)=lsum' s x:=by
 have hl:(zAx (b++lineV s x) nlS).getLast?=some (lineV s x):=by
  rcases hb with rfl|⟨b',rfl⟩
  ·rw [ByteArray.empty_append]
   have e:zAx (lineV s x) nlS=_:=zDp (lineV s x) 10
   rw [e,ae (show ¬zAM (lineV s x) (10:UInt8).toNat=true from zML (zJX h))]
   rfl
  ·exact zPO _ b' _ (ap _) (zJX h)
 unfold lastV
 rw [zWr,zQ8 hl]
 have hc:=(zWW (lineV s x) 32).2.1
 have hc':cut1 (lineV s x) spS=rcut1 (lineV s x) 32:=hc
 have hin:=zNi s (textV x.2 x.1)
 have hq:=(zFh (a:=itoaV (sumV s (textV x.2 x.1))) (b:=textV x.2 x.1) (c:=32) (zFK hin.1 (by decide))).2.1
 have hq':rcut1 (lineV s x) 32=itoaV (sumV s (textV x.2 x.1)):=hq
 rw [hc',hq']
 exact (zEJ hin.1 (by omega)).2
theorem zUK:∀ (L:List Line) (s:Int),bkF s L=ByteArray.empty\/∃ b',bkF s L=b'++nlS
 | [],_=>.inl rfl
 | x::L,s=>by
  rcases zUK L (lsum' s x) with h|⟨b',h⟩
  ·exact .inr ⟨lineV s x,by show lineV s x++nlS++bkF _ L=_; rw [h,ByteArray.append_empty]⟩
  ·exact .inr ⟨lineV s x++nlS++b',by show lineV s x++nlS++bkF _ L=_; rw [h]; simp only [ByteArray.append_assoc]⟩
theorem zVR {L:List Line} (h:∀ x∈L,LineOK x):lastV (bkF 0 L)=bsF 0 L:=by
 rcases List.eq_nil_or_concat L with rfl|⟨M,x,rfl⟩
 ·show lastV ByteArray.empty=0
  decide +kernel
 ·rw [List.concat_eq_append] at h ⊢
  rw [zG3,zRk (zUK M 0) (h x (by simp)),zJz]
theorem zP8 {L:List Line} (h:∀ x∈L,LineOK x) (n:Int) (t:ByteArray):zCs (bkF 0 L) n t=bkF 0 (L++[(t,n)]):=by
 unfold zCs
 rw [zVR h,zG3]
 unfold lineV
 simp only [ByteArray.append_assoc]
theorem zWV {s:Int} {x:Line} {r:ByteArray} (h:LineOK x):zAM (lineV s x++nlS++r) 10=true/\rcut1 (lineV s x++nlS++r) 10=lineV s x/\rcut2 (lineV s x++nlS++r) 10=r:=zFh (c:=10) (zJX h)
theorem nx_bk {s:Int} {x:Line} {r:ByteArray} (h:LineOK x):nxOK (lineV s x++nlS++r) s=true/\zI0 (lineV s x++nlS++r)=x/\rcut2 (lineV s x++nlS++r) 10=r/\nxSum (lineV s x++nlS++r) s=lsum' s x:=by
 obtain ⟨a1,a2,a3⟩:=zWV (s:=s) (r:=r) h
 have hin:=zNi s (textV x.2 x.1)
 obtain ⟨b1,b2,b3⟩:=zFh (a:=itoaV (sumV s (textV x.2 x.1))) (b:=textV x.2 x.1) (c:=32) (zFK hin.1 (by decide))
 have b1':zAM (lineV s x) 32=true:=b1
 have b3':rcut2 (lineV s x) 32=textV x.2 x.1:=b3
 obtain ⟨c1,c2,c3⟩:=zFh (a:=itoaV x.2) (b:=x.1) (c:=32) (zFK h.least.1 (by decide))
 have c1':zAM (textV x.2 x.1) 32=true:=c1
 have c2':rcut1 (textV x.2 x.1) 32=itoaV x.2:=c2
 have c3':rcut2 (textV x.2 x.1) 32=x.1:=c3
 have d1:=zKP h.least.1 h.least.2
 have d2:numRV (itoaV x.2)=x.2:=by rw [<-zK7 d1]; exact (zEJ h.least.1 (by have:=h.least; omega)).2
 have w:zI1 (lineV s x++nlS++r)=itoaV x.2:=by unfold zI1; rw [a2,b3',c2']
 have o:zGm (lineV s x++nlS++r)=x.1:=by unfold zGm; rw [a2,b3',c3']
 have l:zI0 (lineV s x++nlS++r)=x:=by unfold zI0; rw [w,o,d2]
 have t:zRS (lineV s x++nlS++r)=lineV s x:=a2
 have tt:zRR (lineV s x++nlS++r)=textV x.2 x.1:=by unfold zRR; rw [a2,b3']
 refine ⟨?_,l,a3,?_⟩
 ·unfold nxOK zRQ nxIs
  rw [a1,t,b1',tt,c1',w,o,d1,d2,l,aD h.least.2,aD (by have:=h.size; omega:1<=(x.1.size:Int)/\(x.1.size:Int)<=30),aD rfl]
  rfl
 ·unfold nxSum
  rw [w,o,d2]
  rfl
theorem zSn:∀ (L:List Line) (s:Int) (n:Nat),L.length<=n->(∀ x∈L,LineOK x)->zFN n (bkF s L) s=(L,ByteArray.empty)
 | [],s,n,_,_=>zMH (by
  have:nxOK ByteArray.empty s=false:=by
   unfold nxOK zRQ
   rw [show zAM ByteArray.empty 10=false from by decide +kernel]
   rfl
  show ¬nxOK ByteArray.empty s=true
  rw [this]; decide)
 | x::L,s,0,h,_=>by simp at h
 | x::L,s,n+1,h,hL=>by
  obtain ⟨q1,q2,q3,q4⟩:=nx_bk (s:=s) (r:=bkF (lsum' s x) L) (hL x (bJ ..))
  have e:bkF s (x::L)=lineV s x++nlS++bkF (lsum' s x) L:=rfl
  rw [e,zPk q1,q2,q3,q4,zSn L _ n (by simp at h; omega) fun y hy=>hL y (bh _ hy)]
end Go.Proofs.YtekfodeknpnkbaaGreatDoor
