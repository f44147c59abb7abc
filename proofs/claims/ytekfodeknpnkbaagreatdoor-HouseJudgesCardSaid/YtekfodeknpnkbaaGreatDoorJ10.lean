import Derived.Test.YtekfodeknpnkbaaGreatDoorJ9
import Derived.Recover
import Derived.Tactics2
import Derived.Laws.Pointers
set_option linter.unusedSimpArgs false
set_option linter.unusedVariables false
namespace Go.Proofs.YtekfodeknpnkbaaGreatDoor
open Go.RowKit Go.VS
def pPut:ByteArray:=⟨#[112,117,116]⟩
def pTake:ByteArray:=⟨#[116,97,107,101]⟩
def pWant:ByteArray:=⟨#[119,97,110,116]⟩
def pDrop:ByteArray:=⟨#[100,114,111,112]⟩
def pCost:ByteArray:=⟨#[99,111,115,116]⟩
def zHP:ByteArray:=⟨#[119,97,115,116,101]⟩
def zHO:ByteArray:=⟨#[99,108,97,105,109]⟩
structure PEq:Prop where
 put:({data:=#[112,117,116]}:ByteArray)=pPut
 take:({data:=#[116,97,107,101]}:ByteArray)=pTake
 want:({data:=#[119,97,110,116]}:ByteArray)=pWant
 drop:({data:=#[100,114,111,112]}:ByteArray)=pDrop
 cost:({data:=#[99,111,115,116]}:ByteArray)=pCost
 waste:({data:=#[119,97,115,116,101]}:ByteArray)=zHP
 claim:({data:=#[99,108,97,105,109]}:ByteArray)=zHO
theorem pEqs:PEq:=⟨rfl,rfl,rfl,rfl,rfl,rfl,rfl⟩
def numsV (n:ByteArray):Int:=if n=pPut\/n=pTake\/n=pWant\/n=pDrop then 2 else if n=pCost then 3 else if n=zHP\/n=zHO then 1 else -1
theorem zTY (n:ByteArray) : -1<=numsV n/\numsV n<=3:=by
 unfold numsV
 split
 ·omega
 ·split
  ·omega
  ·split<;>omega
@[push_cast] def zV6:Con:=⟨[.dat .str],fun _=>True,fun (x:ByteArray×Unit)=>{res:=[.val .int (numsV x.1)]}⟩
theorem zRP:FnSpec Tryz.prog 107 zV6:=by
 refine FnSpec.of_tri' (E:=know [] [] [] []) (zAl all_nil all_nil all_nil) Tryz.func107 rfl rfl kr ?_
 intro C x hE hnl hfit hpre
 simp only [Tryz.ntmps107,Tryz.results107,maxLen,seval,push_cast] at hnl hfit hpre ⊢
 obtain ⟨(n:ByteArray),_⟩:=x
 dsimp only at hfit hpre ⊢
 obtain ⟨q1,q2,q3,q4,q5,q6,q7⟩:=pEqs
 replace hnl:=aa hnl (aa q1 (aa q2 (aa q3 (aa q4 (aa q5 (aa q6 q7))))))
 clear q1 q2 q3 q4 q5 q6 q7
 by_cases h0:n=pPut
 ·have e:numsV n=2:=by unfold numsV; rw [ah (.inl h0)]
  replace hnl:=aa hnl (aa e (aG h0))
  exact auC
 by_cases h1:n=pTake
 ·have e:numsV n=2:=by unfold numsV; rw [ah (.inr (.inl h1))]
  replace hnl:=aa hnl (aa e (aa (aB h0) (aG h1)))
  exact auC
 by_cases h2:n=pWant
 ·have e:numsV n=2:=by unfold numsV; rw [ah (.inr (.inr (.inl h2)))]
  replace hnl:=aa hnl (aa e (aa (aB h0) (aa (aB h1) (aG h2))))
  exact auC
 by_cases h3:n=pDrop
 ·have e:numsV n=2:=by unfold numsV; rw [ah (.inr (.inr (.inr (h3))))]
  replace hnl:=aa hnl (aa e (aa (aB h0) (aa (aB h1) (aa (aB h2) (aG h3)))))
  exact auC
 have hq:¬(n=pPut\/n=pTake\/n=pWant\/n=pDrop):=fun h=>h.elim h0 fun h=>h.elim h1 fun h=>h.elim h2 h3
 by_cases h4:n=pCost
 ·have e:numsV n=3:=by unfold numsV; rw [ae hq,ah h4]
  replace hnl:=aa hnl (aa e (aa (aB h0) (aa (aB h1) (aa (aB h2) (aa (aB h3) (aG h4))))))
  exact auC
 by_cases h5:n=zHP
 ·have e:numsV n=1:=by unfold numsV; rw [ae hq,ae h4,ah (.inl h5)]
  replace hnl:=aa hnl (aa e (aa (aB h0) (aa (aB h1) (aa (aB h2) (aa (aB h3) (aa (aB h4) (aG h5)))))))
  exact auC
 by_cases h6:n=zHO
 ·have e:numsV n=1:=by unfold numsV; rw [ae hq,ae h4,ah (.inr h6)]
  replace hnl:=aa hnl (aa e (aa (aB h0) (aa (aB h1) (aa (aB h2) (aa (aB h3) (aa (aB h4) (aa (aB h5) (aG h6))))))))
  exact auC
 have e:numsV n = -1:=by unfold numsV; rw [ae hq,ae h4,ae (fun h=>h.elim h5 h6)]
 replace hnl:=aa hnl (aa e (aa (aB h0) (aa (aB h1) (aa (aB h2) (aa (aB h3) (aa (aB h4) (aa (aB h5) (aB h6))))))))
 exact auC
def rchE (l:List Int) (i n:Int) (g:Bool):Int:=if (l.length:Int)<=i then 4 else if n=0 then 1 else if g=true then (if 30<l.getD i.toNat 0+n then 3 else 0) else if l.getD i.toNat 0<n then 9 else 0
def rchL (l:List Int) (i n:Int) (g:Bool):List Int:=if rchE l i n g=0 then l.set i.toNat (if g=true then l.getD i.toNat 0+n else l.getD i.toNat 0 - n) else []
structure RchPre (l:List Int) (i n:Int):Prop where
 len:l.length<=1000
 at':∀ k,k<l.length->0<=l.getD k 0/\l.getD k 0<=30
 i:0<=i/\i<=99999
 n:0<=n/\n<=99999
def isOrd (t:ByteArray):Bool:=decide (1<=t.size/\t.size<=30)
def zAz (t:ByteArray) (i:Nat):ByteArray:=(zBk t).getD i ByteArray.empty
def argsK (t:ByteArray) (k:Nat):List Int:=tbl k fun i=>numRV (zAz t (i+1))
def zDB (t:ByteArray):Bool:=isOrd t && (decide (((zBk t).length:Int) - 1=numsV (zAz t 0)) && (List.range ((zBk t).length - 1)).all fun i=>zBu (zAz t (i+1)) && decide (numRV (zAz t (i+1))<=99999))
def zGL (t:ByteArray):List Int:=argsK t ((zBk t).length - 1)
@[push_cast] def zSw:Con:=⟨[.dat .str],fun (x:ByteArray×Unit)=>x.1.size<=100000,fun (x:ByteArray×Unit) =>
 {res:=[.val .str (if zDB x.1=true then zAz x.1 0 else ⟨#[]⟩),.val (.sl .int) (if zDB x.1=true then zGL x.1 else []),.val .bool (zDB x.1)]}⟩
end Go.Proofs.YtekfodeknpnkbaaGreatDoor
namespace Go.Proofs.YtekfodeknpnkbaaGreatDoor
open Go.RowKit Go.VS
section
variable {t:ByteArray} {k:Nat}
theorem zDk:zDB t=true↔(1<=t.size/\t.size<=30)/\((zBk t).length:Int) - 1=numsV (zAz t 0)/\∀ i,i<(zBk t).length - 1->zBu (zAz t (i+1))=true/\numRV (zAz t (i+1))<=99999:=by
 simp only [zDB,isOrd,av,au,ay,bR]
theorem zR8 (h:¬(1<=t.size/\t.size<=30)):zDB t=false:=by
 rw [bU]; exact fun h2=>h (zDk.1 h2).1
theorem zR9 (h:¬((zBk t).length:Int) - 1=numsV (zAz t 0)):zDB t=false:=by
 rw [bU]; exact fun h2=>h (zDk.1 h2).2.1
theorem zSa (hk:k<(zBk t).length - 1) (h:¬(zBu (zAz t (k+1))=true/\numRV (zAz t (k+1))<=99999)):zDB t=false:=by
 rw [bU]; exact fun h2=>h ((zDk.1 h2).2.2 k hk)
end
theorem zM6:FnSpec Tryz.prog 58 zSw:=by
 refine FnSpec.of_tri' (E:=know _ [] [] []) (zAl (kc zP5 (kc zRP (kc zRO all_nil))) all_nil all_nil) Tryz.func58 rfl rfl kr ?_
 intro C x hE hnl hfit hpre
 simp only [Tryz.ntmps58,Tryz.results58,maxLen,seval,push_cast] at hnl hfit hpre ⊢
 obtain ⟨(t:ByteArray),_⟩:=x
 dsimp only at hfit hpre ⊢
 have hem:({data:=#[]}:ByteArray)=ByteArray.empty:=rfl
 by_cases h1:1<=t.size/\t.size<=30
 rotate_left
 ·have e:=zR8 h1
  replace hnl:=aa hnl (aa e hem)
  exact auC
 have hpos:=zJs t
 have hlen:(zBk t).length<=t.size+1:=(wK_le t (t.size+1)).2
 have hin:=zTY (zAz t 0)
 have hw0:(zBk t).getD 0 ByteArray.empty=zAz t 0:=rfl
 by_cases h2:((zBk t).length:Int) - 1=numsV (zAz t 0)
 rotate_left
 ·have e:=zR9 h2
  replace hnl:=aa hnl (aa e (aa hem hw0))
  exact auC
 replace hnl:=aa hnl (aa hem hw0)
 repeat' (first|(refine goK (by assumption) ?_; iterate 4 (try clear hK K))|(refine zAb fun K hK=>?_)|(refine zAa hE rfl ?_; simp +contextual only [hnl,↓kA,push_cast,seval,reduceCtorEq])|refine zAc ?_|(refine zAg ?_; simp only [thenQ,zAh,if_true,if_false,Nat.reduceEqDiff,reduceCtorEq])|(refine zAe (by rfl) (fun hb=>?_) (fun hb=>?_)<;>(try simp only [bq,reduceCtorEq] at hb)<;>(try omega))|refine andS ?_|(refine ⟨fun hc=>?_,fun hc=>?_⟩)|fail)
 refine zAk (fun k:Nat=>AS.of [(5,.one (.val (.sl .str) (zBk t))),(6,.one (.ref 47)),(7,.I (k+1:Nat))] [(47,.flat 3 .int (argsK t k))] []) (fun k=>k<=(zBk t).length - 1/\∀ i,i<k->zBu (zAz t (i+1))=true/\numRV (zAz t (i+1))<=99999) (fun k=>(zBk t).length - 1 - k) 0 ⟨aq _,by omega⟩ ?_ ?_
 ·refine zAf ?_ ?_ ?_<;>simp only [push_cast,seval,reduceCtorEq]
  all_goals first|rfl|exact ⟨by omega,rfl⟩
 intro k ⟨hk,hall⟩ K' hL
 have hal:(argsK t k).length=k:=zAY _ _
 rcases ai k ((zBk t).length - 1) with hkl|hkl
 ·have hwk:(zBk t).getD ((k:Int)+1).toNat ByteArray.empty=zAz t (k+1):=by
   rw [show ((k:Int)+1).toNat=k+1 by omega]; rfl
  by_cases h3:zBu (zAz t (k+1))=true/\numRV (zAz t (k+1))<=99999
  ·have hst:argsK t (k+1)=argsK t k++[numRV (zAz t (k+1))]:=zEb _ _
   replace hnl:=aa hnl (aa hwk (aa h3.1 (aa (show decide (numRV (zAz t (k+1))<=99999)=true from aD h3.2) hal)))
   repeat' (first|(refine goK (by assumption) ?_; iterate 4 (try clear hK K))|(refine zAb fun K hK=>?_)|(refine zAa hE rfl ?_; simp +contextual only [hnl,↓kA,push_cast,seval,reduceCtorEq])|refine zAc ?_|(refine zAg ?_; simp only [thenQ,zAh,if_true,if_false,Nat.reduceEqDiff,reduceCtorEq])|(refine zAe (by rfl) (fun hb=>?_) (fun hb=>?_)<;>(try simp only [bq,reduceCtorEq] at hb)<;>(try omega))|refine andS ?_|fail)
   refine hL _ (k+1) ⟨by omega,fun i hi=>?_⟩ (by omega) ?_
   ·rcases ai i k with h5|h5
    ·exact hall i h5
    ·obtain rfl:i=k:=by omega
     exact h3
   refine zAf ?_ ?_ ?_<;>simp only [push_cast,seval,reduceCtorEq]
   exact .inl (by rw [hst])
  ·have e:=zSa hkl h3
   have h4:(zBu (zAz t (k+1)) && decide (numRV (zAz t (k+1))<=99999))=false:=by
    rw [bU]
    intro h
    rw [av,au] at h
    exact h3 h
   replace hnl:=aa hnl (aa hwk (aa e h4))
   exact auC
 ·obtain rfl:k=(zBk t).length - 1:=by omega
  have e:zDB t=true:=zDk.2 ⟨h1,h2,hall⟩
  replace hnl:=aa hnl e
  repeat' (first|(refine goK (by assumption) ?_; iterate 4 (try clear hK K))|(refine zAb fun K hK=>?_)|((first|refine zAa hE rfl ?_|refine zAi ?_); simp +contextual only [hnl,↓kA,push_cast,seval,reduceCtorEq])|(refine zAj ?_; simp only [thenQ,zAh,if_true,if_false,Nat.reduceEqDiff,reduceCtorEq])|(refine zAe (by rfl) (fun hb=>?_) (fun hb=>?_)<;>(try simp only [bq,reduceCtorEq] at hb)<;>(try omega))|refine andS ?_|fail)
  rfl
end Go.Proofs.YtekfodeknpnkbaaGreatDoor
namespace Go.Proofs.YtekfodeknpnkbaaGreatDoor
open Go.RowKit Go.VS Go.OT
def zBM (a b:List Int) (c:List (List Int)) (k:Nat):List Int:=(List.range (k+1)).map (partV a b c)
def enK (a b:List Int) (c:List (List Int)) (p:List Int×Int×Unit->Bool) (k:Nat):Bool:=p (zBM a b c k,nuV a b c k,())
def zEt (a b:List Int) (c:List (List Int)) (p:List Int×Int×Unit->Bool):Nat:=stopK (maxU a b) (enK a b c p)
theorem zI5 (a b:List Int) (c:List (List Int)) (k:Nat):(zBM a b c k).length=k+1:=by simp [zBM]
theorem zMS (a b:List Int) (c:List (List Int)) (k:Nat):zBM a b c (k+1)=zBM a b c k++[partV a b c (k+1)]:=by
 unfold zBM
 rw [cT,bF]
 rfl
theorem zLg (a b:List Int) (c:List (List Int)) {k m:Nat} (h:m<=k):(zBM a b c k).getD m 0=partV a b c m:=by
 simp [zBM,ab,Nat.lt_succ_of_le h]
theorem zOu {M k:Nat} {en:Nat->Bool} (h1:k<=M) (h2:∀ m,m<k->en m=false) (h3:k=M\/en k=true):stopK M en=k:=by
 obtain ⟨g1,g2,g3⟩:=zGv M en
 rcases Nat.lt_trichotomy (stopK M en) k with h|h|h
 ·have:=h2 _ h
  rw [g3 (by omega)] at this
  cases this
 ·exact h
 ·rcases h3 with h3|h3
  ·omega
  ·rw [g2 _ h] at h3
   cases h3
abbrev zQh:=List Int×List Int×List (List Int)×((List Int×Int×Unit->Prop)×(List Int×Int×Unit->Bool))×Unit
@[reducible] def zOo:List AD:=[.dat (.sl .int),.dat (.sl .int),.dat (.sl (.sl .int)),.fnc [.sl .int,.int] .bool]
@[push_cast] theorem zWH {a:Sh} {r:Nat} {bs:List BV}:zHD a (.ref r::bs)=none:=rfl
def rowsC (p:List (List Int)) (n i:Nat):List (List Int):=p.take i++List.replicate (n - i) []
theorem zSu {p:List (List Int)} {n i:Nat} (h:p.length=n) (hi:i<=n):(rowsC p n i).length=n:=by simp [rowsC]; omega
theorem zSv {p:List (List Int)} {n i:Nat} (h:p.length=n) (hi:i<n) (z:List Int):((rowsC p n i).set i z).set i (p.getD i [])=rowsC p n (i+1):=by
 rw [List.set_set]
 unfold rowsC
 have e:n - i=(n - (i+1))+1:=by omega
 rw [e,List.replicate_succ,List.set_append_right _ _ (by simp; omega),aU,Nat.min_eq_left (by omega),Nat.sub_self,List.set_cons_zero,bb (by omega),cm]
 simp [ab,show i<p.length by omega]
theorem zWi (p:List (List Int)) (n:Nat):rowsC p n 0=List.replicate n []:=by simp [rowsC]
theorem zSt {p:List (List Int)} {n:Nat} (h:p.length=n):rowsC p n n=p:=by simp [rowsC,<-h]
theorem zLA {f:Nat->Int} {M:Int}:∀ n:Nat,(∀ i,i<n->f i<=M)->sg n f<=n*M
 | 0,_=>by simp [sg]
 | n+1,h=>by
  have h1:=zLA n fun i hi=>h i (by omega)
  have h2:=h n (by omega)
  show sg n f+f n<=_
  rw [Int.natCast_add,Int.add_mul]
  omega
theorem zOb {a b:List Int} {c:List (List Int)} (hm:MC a b c):maxU a b<=1200:=by
 have h1:sumL a<=a.length*200:=zLA _ fun i hi=>(hm.ha.at hi).2
 have:=hm.a5
 unfold maxU
 omega
structure SeI (a b:List Int) (c:List (List Int)) (p:List Int×Int×Unit->Bool) (k:Nat):Prop where
 le:k<=maxU a b
 no:∀ m,m<k->enK a b c p m=false
theorem zPK (C:Ctx) (γ:Gam) (x:zQh) (vs:List Value) (hm:MC x.1 x.2.1 x.2.2.1) (hq:∀ y,x.2.2.2.1.1 y) (hen:Entry C γ Tryz.prog zOo x vs) :
 Calls Tryz.prog 203 vs.toArray C.w0 (fun e w=>∃ ch,e=.panicked ch /\
  zHi C 169 (.sl (.sl .int)) (.sl .int) (stepP x.1 x.2.1 x.2.2.1 (zEt x.1 x.2.1 x.2.2.1 x.2.2.2.1.2)) (zBM x.1 x.2.1 x.2.2.1 (zEt x.1 x.2.1 x.2.2.1 x.2.2.2.1.2)) ch w):=by
 refine zXU (E:=know [(171,zNR),(172,zRN)] [] [] [17]) (zAl (all_cons zID (all_cons zK6 all_nil)) all_nil all_nil) (G:=fun C=>zHi C 169 (.sl (.sl .int)) (.sl .int) _ _) Tryz.func203 rfl (by simp [zAN,Tryz.ntmps203]) ?_ C γ vs hen
 clear hen vs γ C
 intro C hP hE hnl hfit
 obtain ⟨(a:List Int),(b:List Int),(c:List (List Int)),⟨(q:List Int×Int×Unit->Prop),(p:List Int×Int×Unit->Bool)⟩,_⟩:=x
 dsimp only at hm hq hfit ⊢
 have ha5:=hm.a5
 have hb5:=hm.b5
 have hT:∃ fs,C.P.underlying 169=some (.struct fs):=by rw [hP]; exact ⟨_,Tryz.underlying169⟩
 have hu:C.P.underlying 38=some (.slice 3):=by rw [hP]; exact Tryz.underlying38
 have hs:(C.P.info? 3).map (·.size)=some 1:=by rw [hP]; kernel_rfl
 simp only [Tryz.ntmps203,Tryz.results203,maxLen,Nat.reduceSub,Nat.reducePow,Nat.reduceAdd,cI,push_cast] at hnl hfit ⊢
 repeat' (first|(refine goP (by assumption) ?_; iterate 4 (try clear hK K))|(refine zDW fun K hK=>?_)|(refine zBZ ?_; refine zAa hE rfl ?_; simp +contextual only [hnl,↓kA,push_cast,seval,reduceCtorEq,cI])|(refine zBZ ?_; (refine zEc hE 3 [0] rfl (by decide +kernel) ?_; simp only [ao,List.length_nil,Nat.reduceAdd,Nat.reduceSub,ak,List.take_zero,al,ar,pickM,headM,b8,List.filterMap_nil,aY,bi,List.contains_cons,List.contains_nil,Nat.reduceBEq,bY,bC,Bool.true_or,cF,if_true,aQ,if_false,bZ,bD]; simp +contextual only [hnl,↓kA,push_cast,seval,reduceCtorEq,cI]))|first|(refine goK (by assumption) ?_; iterate 4 (try clear hK K))|(refine zAb fun K hK=>?_)|((first|refine zAa hE rfl ?_|refine zAi ?_); simp +contextual only [hnl,↓kA,push_cast,seval,reduceCtorEq,cI])|refine zAc ?_|((first|refine zAg ?_|refine zAj ?_); simp only [thenQ,zAh,if_true,if_false,Nat.reduceEqDiff,reduceCtorEq])|(refine zAe (by rfl) (fun hb=>?_) (fun hb=>?_)<;>(try simp only [bq,reduceCtorEq] at hb)<;>(try omega))|refine zAF (by rfl) ?_ ?_|refine andS ?_|(refine ⟨fun hc=>?_,fun hc=>?_⟩)|(intro hc; try omega))
 refine zJk ?_
 refine zPW (fun k:Nat=>AS.of [(0,.one (.val (.sl .int) a)),(1,.one (.val (.sl .int) b)),(2,.one (.val (.sl (.sl .int)) c)),(3,.one (.fnv [.sl .int,.int] .bool q p)),(8,.one (.box 8))] [(17,.flat 3 .int (zBM a b c k))] [(8,.rcd [.val (.sl (.sl .int)) (stepP a b c k),.ref 17])])
  (SeI a b c p) (fun k=>maxU a b - k) 0 ⟨aq _,fun m hm=>absurd hm (bE _)⟩ ?_ ?_
 ·refine zAf ?_ ?_ ?_<;>simp only [push_cast,seval,reduceCtorEq,cI]
  ·exact .inl rfl
  ·rfl
 intro k hI K' hL
 have hst:=stepI hm k hI.le
 have hlen:(stepP a b c k).length=a.length:=hst.way.shp.rows
 refine zJk ?_
 repeat' (first|(refine goP (by assumption) ?_; iterate 4 (try clear hK K))|(refine zDW fun K hK=>?_)|(refine zBZ ?_; refine zAa hE rfl ?_; simp +contextual only [hnl,↓kA,push_cast,seval,reduceCtorEq,cI])|(refine zBZ ?_; (refine zEc hE 3 [0] rfl (by decide +kernel) ?_; simp only [ao,List.length_nil,Nat.reduceAdd,Nat.reduceSub,ak,List.take_zero,al,ar,pickM,headM,b8,List.filterMap_nil,aY,bi,List.contains_cons,List.contains_nil,Nat.reduceBEq,bY,bC,Bool.true_or,cF,if_true,aQ,if_false,bZ,bD]; simp +contextual only [hnl,↓kA,push_cast,seval,reduceCtorEq,cI]))|first|(refine goK (by assumption) ?_; iterate 4 (try clear hK K))|(refine zAb fun K hK=>?_)|((first|refine zAa hE rfl ?_|refine zAi ?_); simp +contextual only [hnl,↓kA,push_cast,seval,reduceCtorEq,cI])|refine zAc ?_|((first|refine zAg ?_|refine zAj ?_); simp only [thenQ,zAh,if_true,if_false,Nat.reduceEqDiff,reduceCtorEq])|(refine zAe (by rfl) (fun hb=>?_) (fun hb=>?_)<;>(try simp only [bq,reduceCtorEq] at hb)<;>(try omega))|refine zAF (by rfl) ?_ ?_|refine andS ?_|(refine ⟨fun hc=>?_,fun hc=>?_⟩)|(intro hc; try omega))
 refine zBZ ?_
 repeat' (first|(refine goK (by assumption) ?_; iterate 4 (try clear hK K))|(refine zAb fun K hK=>?_)|((first|refine zAa hE rfl ?_|refine zAi ?_); simp +contextual only [hnl,↓kA,push_cast,seval,reduceCtorEq,cI])|refine zAc ?_|((first|refine zAg ?_|refine zAj ?_); simp only [thenQ,zAh,if_true,if_false,Nat.reduceEqDiff,reduceCtorEq])|(refine zAe (by rfl) (fun hb=>?_) (fun hb=>?_)<;>(try simp only [bq,reduceCtorEq] at hb)<;>(try omega))|refine zAF (by rfl) ?_ ?_|refine andS ?_|(refine ⟨fun hc=>?_,fun hc=>?_⟩)|(intro hc; try omega))
 refine zAk (fun i:Nat=>AS.of [(0,.one (.val (.sl .int) a)),(1,.one (.val (.sl .int) b)),(2,.one (.val (.sl (.sl .int)) c)),(3,.one (.fnv [.sl .int,.int] .bool q p)),(8,.one (.box 8)),(9,.one (.ref 22)),(24,.one (.val (.sl (.sl .int)) (stepP a b c k))),(25,.I (stepP a b c k).length),(26,.I i)] [(17,.flat 3 .int (zBM a b c k)),(22,.deep 38 3 .int (rowsC (stepP a b c k) a.length i))] [(8,.rcd [.val (.sl (.sl .int)) (stepP a b c k),.ref 17])])
  (fun i=>i<=a.length) (fun i=>a.length - i) 0 (aq _) ?_ ?_
 ·refine zAf ?_ ?_ ?_<;>simp only [push_cast,seval,reduceCtorEq,cI]
  rw [zWi,hlen]
  exact .inl rfl
 intro i hi K2 hL2
 have hrl:=zSu hlen hi
 rcases ai i a.length with hia|hia
 ·have hw:=hst.way.shp.cols i (by omega)
  have hg:=zSv hlen hia (List.replicate ((stepP a b c k).getD i []).length 0)
  have hgl:((rowsC (stepP a b c k) a.length i).set i (List.replicate ((stepP a b c k).getD i []).length 0)).length=a.length:=by rw [be,hrl]
  have hgg:((rowsC (stepP a b c k) a.length i).set i (List.replicate ((stepP a b c k).getD i []).length 0)).getD i []=List.replicate ((stepP a b c k).getD i []).length 0:=by
   rw [ab,List.getElem?_set_self (by omega)]; rfl
  repeat' (first|((refine zUw hE 5 hu hs rfl rfl ?_; simp only [ao,List.length_nil,Nat.reduceAdd,Nat.reduceSub,ak,List.take_zero,al,ar]; simp +contextual only [hnl,↓kA,copyS,push_cast,seval,reduceCtorEq,cI]))|first|(refine goK (by assumption) ?_; iterate 4 (try clear hK K))|(refine zAb fun K hK=>?_)|((first|refine zAa hE rfl ?_|refine zAi ?_); simp +contextual only [hnl,↓kA,push_cast,seval,reduceCtorEq,cI])|refine zAc ?_|((first|refine zAg ?_|refine zAj ?_); simp only [thenQ,zAh,if_true,if_false,Nat.reduceEqDiff,reduceCtorEq])|(refine zAe (by rfl) (fun hb=>?_) (fun hb=>?_)<;>(try simp only [bq,reduceCtorEq] at hb)<;>(try omega))|refine zAF (by rfl) ?_ ?_|refine andS ?_|(refine ⟨fun hc=>?_,fun hc=>?_⟩)|(intro hc; try omega))
  refine ⟨by rw [hgg,aE],?_⟩
  repeat' (first|(refine goK (by assumption) ?_; iterate 4 (try clear hK K))|(refine zAb fun K hK=>?_)|((first|refine zAa hE rfl ?_|refine zAi ?_); simp +contextual only [hnl,↓kA,push_cast,seval,reduceCtorEq,cI])|refine zAc ?_|((first|refine zAg ?_|refine zAj ?_); simp only [thenQ,zAh,if_true,if_false,Nat.reduceEqDiff,reduceCtorEq])|(refine zAe (by rfl) (fun hb=>?_) (fun hb=>?_)<;>(try simp only [bq,reduceCtorEq] at hb)<;>(try omega))|refine zAF (by rfl) ?_ ?_|refine andS ?_|(refine ⟨fun hc=>?_,fun hc=>?_⟩)|(intro hc; try omega))
  rw [hg]
  refine hL2 _ (i+1) (by omega) (by omega) ?_
  refine zAf ?_ ?_ ?_<;>simp only [push_cast,seval,reduceCtorEq,cI]
  done
 ·obtain rfl:i=a.length:=by omega
  have hra:=zSt hlen
  have hends:(nextP a b c (stepP a b c k)).isSome=true:=by
   by_cases hb:bestV a b c (stepP a b c k)<0
   ·rw [(zEU hm.hc hst.way hb).1]; rfl
   ·obtain ⟨p',h4,_⟩:=zDM hm.hc hst.way hb
    rw [h4]; rfl
  have hpre2:NextPre a b c (.deep 38 3 .int (stepP a b c k)):=⟨by rw [zC8],by rw [zC8]; exact hst.way.shp,hm.hc,by rw [zC8]; exact hends⟩
  rcases ai k (maxU a b) with hk|hk
  ·have hb0:=(hst.more hm).2 hk
   obtain ⟨n1,n2,n3,n4,n5⟩:=hst.next hm hk
   replace hnl:=aa hnl (aa hra (aa n2 (aG (show 0<=bestV a b c (stepP a b c k) by omega))))
   replace hnl:=aa hnl (aG (hq (zBM a b c k,nextN a b c (stepP a b c k),())))
   by_cases he:enK a b c p k=true
   ·have hfk:zEt a b c p=k:=zOu hI.le hI.no (.inr he)
    replace hnl:=aa hnl (show p (zBM a b c k,nextN a b c (stepP a b c k),())=true from he)
    repeat' (first|(refine goK (by assumption) ?_; iterate 4 (try clear hK K))|(refine zAb fun K hK=>?_)|((first|refine zAa hE rfl ?_|refine zAi ?_); simp +contextual only [hnl,↓kA,push_cast,seval,reduceCtorEq,cI])|refine zAc ?_|((first|refine zAg ?_|refine zAj ?_); simp only [thenQ,zAh,if_true,if_false,Nat.reduceEqDiff,reduceCtorEq])|(refine zAe (by rfl) (fun hb=>?_) (fun hb=>?_)<;>(try simp only [bq,reduceCtorEq] at hb)<;>(try omega))|refine zAF (by rfl) ?_ ?_|refine andS ?_|(refine ⟨fun hc=>?_,fun hc=>?_⟩)|(intro hc; try omega))
    repeat' (first|(refine goP (by assumption) ?_; iterate 4 (try clear hK K))|(refine zDW fun K hK=>?_)|(refine zBZ ?_; refine zAa hE rfl ?_; simp +contextual only [hnl,↓kA,push_cast,seval,reduceCtorEq,cI])|(refine zBZ ?_; (refine zEc hE 3 [0] rfl (by decide +kernel) ?_; simp only [ao,List.length_nil,Nat.reduceAdd,Nat.reduceSub,ak,List.take_zero,al,ar,pickM,headM,b8,List.filterMap_nil,aY,bi,List.contains_cons,List.contains_nil,Nat.reduceBEq,bY,bC,Bool.true_or,cF,if_true,aQ,if_false,bZ,bD]; simp +contextual only [hnl,↓kA,push_cast,seval,reduceCtorEq,cI]))|first|(refine goK (by assumption) ?_; iterate 4 (try clear hK K))|(refine zAb fun K hK=>?_)|((first|refine zAa hE rfl ?_|refine zAi ?_); simp +contextual only [hnl,↓kA,push_cast,seval,reduceCtorEq,cI])|refine zAc ?_|((first|refine zAg ?_|refine zAj ?_); simp only [thenQ,zAh,if_true,if_false,Nat.reduceEqDiff,reduceCtorEq])|(refine zAe (by rfl) (fun hb=>?_) (fun hb=>?_)<;>(try simp only [bq,reduceCtorEq] at hb)<;>(try omega))|refine zAF (by rfl) ?_ ?_|refine andS ?_|(refine ⟨fun hc=>?_,fun hc=>?_⟩)|(intro hc; try omega))
    rw [hfk]
    refine zIb (b:=true) (by rfl) (fun _=>?_) (fun hb=>absurd hb (by decide))
    refine zLK (t:=AS.of [(8,.one (.box 8))] [] [(8,.rcd [.val (.sl (.sl .int)) (stepP a b c k),.val (.sl .int) (zBM a b c k)])]) (by refine zAf ?_ ?_ ?_<;>simp only [push_cast,seval,reduceCtorEq,cI]) ?_; obtain ⟨fs,hT⟩:=hT; refine zJl hE hT rfl ?_; simp +contextual only [hnl,↓kA,push_cast,seval,reduceCtorEq,cI]
   ·replace hnl:=aa hnl (show p (zBM a b c k,nextN a b c (stepP a b c k),())=false from (cW _).mp he)
    have h17:=zI5 a b c k
    have h18:=zLg a b c (ap k)
    have h19:=zHc hm k hI.le
    repeat' (first|(refine goK (by assumption) ?_; iterate 4 (try clear hK K))|(refine zAb fun K hK=>?_)|((first|refine zAa hE rfl ?_|refine zAi ?_); simp +contextual only [hnl,↓kA,push_cast,seval,reduceCtorEq,cI])|refine zAc ?_|((first|refine zAg ?_|refine zAj ?_); simp only [thenQ,zAh,if_true,if_false,Nat.reduceEqDiff,reduceCtorEq])|(refine zAe (by rfl) (fun hb=>?_) (fun hb=>?_)<;>(try simp only [bq,reduceCtorEq] at hb)<;>(try omega))|refine zAF (by rfl) ?_ ?_|refine andS ?_|(refine ⟨fun hc=>?_,fun hc=>?_⟩)|(intro hc; try omega))
    repeat' (first|(refine goP (by assumption) ?_; iterate 4 (try clear hK K))|(refine zDW fun K hK=>?_)|(refine zBZ ?_; refine zAa hE rfl ?_; simp +contextual only [hnl,↓kA,push_cast,seval,reduceCtorEq,cI])|(refine zBZ ?_; (refine zEc hE 3 [0] rfl (by decide +kernel) ?_; simp only [ao,List.length_nil,Nat.reduceAdd,Nat.reduceSub,ak,List.take_zero,al,ar,pickM,headM,b8,List.filterMap_nil,aY,bi,List.contains_cons,List.contains_nil,Nat.reduceBEq,bY,bC,Bool.true_or,cF,if_true,aQ,if_false,bZ,bD]; simp +contextual only [hnl,↓kA,push_cast,seval,reduceCtorEq,cI]))|first|(refine goK (by assumption) ?_; iterate 4 (try clear hK K))|(refine zAb fun K hK=>?_)|((first|refine zAa hE rfl ?_|refine zAi ?_); simp +contextual only [hnl,↓kA,push_cast,seval,reduceCtorEq,cI])|refine zAc ?_|((first|refine zAg ?_|refine zAj ?_); simp only [thenQ,zAh,if_true,if_false,Nat.reduceEqDiff,reduceCtorEq])|(refine zAe (by rfl) (fun hb=>?_) (fun hb=>?_)<;>(try simp only [bq,reduceCtorEq] at hb)<;>(try omega))|refine zAF (by rfl) ?_ ?_|refine andS ?_|(refine ⟨fun hc=>?_,fun hc=>?_⟩)|(intro hc; try omega))
    refine zIb (b:=false) (by rfl) (fun hb=>absurd hb (by decide)) (fun _=>zSI ?_)
    repeat' (first|(refine goP (by assumption) ?_; iterate 4 (try clear hK K))|(refine zDW fun K hK=>?_)|(refine zBZ ?_; refine zAa hE rfl ?_; simp +contextual only [hnl,↓kA,push_cast,seval,reduceCtorEq,cI])|(refine zBZ ?_; (refine zEc hE 3 [0] rfl (by decide +kernel) ?_; simp only [ao,List.length_nil,Nat.reduceAdd,Nat.reduceSub,ak,List.take_zero,al,ar,pickM,headM,b8,List.filterMap_nil,aY,bi,List.contains_cons,List.contains_nil,Nat.reduceBEq,bY,bC,Bool.true_or,cF,if_true,aQ,if_false,bZ,bD]; simp +contextual only [hnl,↓kA,push_cast,seval,reduceCtorEq,cI]))|first|(refine goK (by assumption) ?_; iterate 4 (try clear hK K))|(refine zAb fun K hK=>?_)|((first|refine zAa hE rfl ?_|refine zAi ?_); simp +contextual only [hnl,↓kA,push_cast,seval,reduceCtorEq,cI])|refine zAc ?_|((first|refine zAg ?_|refine zAj ?_); simp only [thenQ,zAh,if_true,if_false,Nat.reduceEqDiff,reduceCtorEq])|(refine zAe (by rfl) (fun hb=>?_) (fun hb=>?_)<;>(try simp only [bq,reduceCtorEq] at hb)<;>(try omega))|refine zAF (by rfl) ?_ ?_|refine andS ?_|(refine ⟨fun hc=>?_,fun hc=>?_⟩)|(intro hc; try omega))
    have e2:(((zBM a b c k).length:Int) - 1).toNat=k:=by omega
    have n4':0<=nextN a b c (stepP a b c k)/\nextN a b c (stepP a b c k)<=99:=⟨n4,n5⟩
    have hmx:=zOb hm
    rw [e2,h18]
    refine ⟨by unfold InR; omega,⟨by omega,by omega⟩,by omega,by unfold InR; omega,rfl,by omega,?_⟩
    have e3:zBM a b c k++[partV a b c k+nextN a b c (stepP a b c k)]=zBM a b c (k+1):=(zMS a b c k).symm
    refine hL _ (k+1) ⟨by omega,fun m hmk=>?_⟩ (by omega) ?_
    ·rcases ai m k with h|h
     ·exact hI.no m h
     ·obtain rfl:m=k:=by omega
      exact (cW _).mp he
    refine zAf ?_ ?_ ?_<;>simp only [push_cast,seval,reduceCtorEq,cI]
    rw [e3]
    exact .inl rfl
  ·have hb0:bestV a b c (stepP a b c k)<0:=by
    have:=(hst.more hm).1
    omega
   obtain ⟨n2,_,_⟩:=zEU hm.hc hst.way hb0
   replace hnl:=aa hnl (aa hra (aa n2 (aB (show ¬0<=bestV a b c (stepP a b c k) by omega))))
   have hfk:zEt a b c p=k:=zOu hI.le hI.no (.inl (by have:=hI.le; omega))
   repeat' (first|(refine goK (by assumption) ?_; iterate 4 (try clear hK K))|(refine zAb fun K hK=>?_)|((first|refine zAa hE rfl ?_|refine zAi ?_); simp +contextual only [hnl,↓kA,push_cast,seval,reduceCtorEq,cI])|refine zAc ?_|((first|refine zAg ?_|refine zAj ?_); simp only [thenQ,zAh,if_true,if_false,Nat.reduceEqDiff,reduceCtorEq])|(refine zAe (by rfl) (fun hb=>?_) (fun hb=>?_)<;>(try simp only [bq,reduceCtorEq] at hb)<;>(try omega))|refine zAF (by rfl) ?_ ?_|refine andS ?_|(refine ⟨fun hc=>?_,fun hc=>?_⟩)|(intro hc; try omega))
   repeat' (first|(refine goP (by assumption) ?_; iterate 4 (try clear hK K))|(refine zDW fun K hK=>?_)|(refine zBZ ?_; refine zAa hE rfl ?_; simp +contextual only [hnl,↓kA,push_cast,seval,reduceCtorEq,cI])|(refine zBZ ?_; (refine zEc hE 3 [0] rfl (by decide +kernel) ?_; simp only [ao,List.length_nil,Nat.reduceAdd,Nat.reduceSub,ak,List.take_zero,al,ar,pickM,headM,b8,List.filterMap_nil,aY,bi,List.contains_cons,List.contains_nil,Nat.reduceBEq,bY,bC,Bool.true_or,cF,if_true,aQ,if_false,bZ,bD]; simp +contextual only [hnl,↓kA,push_cast,seval,reduceCtorEq,cI]))|first|(refine goK (by assumption) ?_; iterate 4 (try clear hK K))|(refine zAb fun K hK=>?_)|((first|refine zAa hE rfl ?_|refine zAi ?_); simp +contextual only [hnl,↓kA,push_cast,seval,reduceCtorEq,cI])|refine zAc ?_|((first|refine zAg ?_|refine zAj ?_); simp only [thenQ,zAh,if_true,if_false,Nat.reduceEqDiff,reduceCtorEq])|(refine zAe (by rfl) (fun hb=>?_) (fun hb=>?_)<;>(try simp only [bq,reduceCtorEq] at hb)<;>(try omega))|refine zAF (by rfl) ?_ ?_|refine andS ?_|(refine ⟨fun hc=>?_,fun hc=>?_⟩)|(intro hc; try omega))
   rw [hfk]
   refine zIb (b:=true) (by rfl) (fun _=>?_) (fun hb=>absurd hb (by decide))
   refine zLK (t:=AS.of [(8,.one (.box 8))] [] [(8,.rcd [.val (.sl (.sl .int)) (stepP a b c k),.val (.sl .int) (zBM a b c k)])]) (by refine zAf ?_ ?_ ?_<;>simp only [push_cast,seval,reduceCtorEq,cI]) ?_; obtain ⟨fs,hT⟩:=hT; refine zJl hE hT rfl ?_; simp +contextual only [hnl,↓kA,push_cast,seval,reduceCtorEq,cI]
end Go.Proofs.YtekfodeknpnkbaaGreatDoor
namespace Go.Proofs.YtekfodeknpnkbaaGreatDoor
open Go.RowKit Go.VS Go.OT
theorem zUt (xt:TypeId) (v:Value) (w:World):(Instr.typeAssert (.iface 169 v) xt 169 true).run Tryz.prog w=.ok (.tuple #[v,.bool true]) w:=by
 have hu:=aH (P:=Tryz.prog) Tryz.underlying169 w
 simp [Instr.typeAssert,hu]
theorem zSN {w:World} {g:Nat} {t:TypeId} {x y:Value} (h:w.heap[g]?=some (.cells #[x,y] t (0,0))) (u v:Value) :
 w.cell? ⟨g,0,none⟩=some x/\w.frozen? ⟨g,0,none⟩=false/\(w.setCell ⟨g,0,none⟩ u).cell? ⟨g,1,none⟩=some y/\(w.setCell ⟨g,0,none⟩ u).frozen? ⟨g,1,none⟩=false /\
 ((w.setCell ⟨g,0,none⟩ u).setCell ⟨g,1,none⟩ v).heap[g]?=some (.cells #[u,v] t (0,0))/\Keep (fun k=>k=g) w ((w.setCell ⟨g,0,none⟩ u).setCell ⟨g,1,none⟩ v):=by
 have e1:w.setCell ⟨g,0,none⟩ u=w.setRow g #[u,y]:=setCell_eq_setRow w g 0 #[x,y] t (0,0) u h
 have h1:(w.setRow g #[u,y]).heap[g]?=some (.cells #[u,y] t (0,0)):=setRow_heap w g _ _ t _ h
 have e2:(w.setRow g #[u,y]).setCell ⟨g,1,none⟩ v=(w.setRow g #[u,y]).setRow g #[u,v]:=setCell_eq_setRow _ g 1 #[u,y] t (0,0) v h1
 rw [e1,e2]
 refine ⟨by simp [World.cell?,h],by simp [World.frozen?,h],by simp [World.cell?,h1],by simp [World.frozen?,h1],setRow_heap _ g _ _ t _ h1,⟨rfl,rfl,rfl,by simp [World.setRow],fun k hk hne=>?_⟩⟩
 rw [setRow_other _ g k _ hne,setRow_other _ g k _ hne]
theorem zMh (b:Nat) (a1 a2:Option Addr) (n1 c1 n2 c2:Nat) (w:World) (t:TypeId) (x y:Value) (hb:w.heap[b]?=some (.cells #[x,y] t (0,0))) :
 CallsD Tryz.prog 202 #[.pointer (some ⟨b,0,none⟩)] (.panicking [{v:=.iface 169 (.agg #[.slice a1 n1 c1,.slice a2 n2 c2]),recovered:=false}]) w fun e u' w' =>
  e=.returned (.tuple #[])/\u'=.panicking [{v:=.iface 169 (.agg #[.slice a1 n1 c1,.slice a2 n2 c2]),recovered:=true}] /\
  Keep (fun k=>k=b) w w'/\w'.heap[b]?=some (.cells #[.slice a1 n1 c1,.slice a2 n2 c2] t (0,0)):=by
 refine callsD_of_wpS Tryz.func202 rfl fun c₀ cs hu=>?_
 apply wpS_seq
 apply wpS_region
 simp [wpOpsS,go_sem,recoverD,hu,Tryz.ntmps202,Exit.thenS]
 apply wpS_seq
 apply wpS_region
 simp [wpOpsS,go_sem,Exit.thenS,zUt]
 have hblt:b<w.heap.size:=(aP.1 hb).1
 have h1:(w.alloc (.cells #[.slice a1 n1 c1,.slice a2 n2 c2] 169)).heap[w.heap.size]?=some (.cells #[.slice a1 n1 c1,.slice a2 n2 c2] 169 (0,0)):=by simp only [World.alloc,b7,if_true]
 have h2:(w.alloc (.cells #[.slice a1 n1 c1,.slice a2 n2 c2] 169)).heap[b]?=some (.cells #[x,y] t (0,0)):=by
  simp only [World.alloc,b7]
  rw [ae (by omega)]
  exact hb
 obtain ⟨W,hW⟩:∃ W,W=w.alloc (.cells #[.slice a1 n1 c1,.slice a2 n2 c2] 169):=⟨_,rfl⟩
 have hkW:Keep (fun k=>k=b) w W:=by
  rw [hW]
  exact ⟨rfl,rfl,rfl,by simp only [World.alloc,Array.size_push]; omega,fun k hk _=>by simp only [World.alloc,b7]; rw [ae (by omega)]⟩
 rw [<-hW] at h1 h2 ⊢
 have l0:W.cell? ⟨w.heap.size,0,none⟩=some (.slice a1 n1 c1):=by simp [World.cell?,h1]
 have l1:W.cell? ⟨w.heap.size,1,none⟩=some (.slice a2 n2 c2):=by simp [World.cell?,h1]
 obtain ⟨e1,e2,e3,e4,e5,e6⟩:=zSN h2 (.slice a1 n1 c1) (.slice a2 n2 c2)
 apply wpS_seq
 apply wpS_seq
 apply wpS_region
 simp [wpOpsS,go_sem,Exit.thenS]
 refine wpS_cond (t:=false) (by simp [Act.eval,Array.replicate]) ?_
 simp only [aQ,if_false]
 refine wpS_of_wp (wp_skip ?_)
 simp only [Exit.thenS]
 apply wpS_region
 simp [wpOpsS,go_sem,Exit.thenS,l0,l1,e1,e2,e3,e4,bodyPostS,results,Tryz.results202]
 exact ⟨hkW.step e6 (fun k hk _=>hk),e5⟩
@[push_cast] def zRv:Con:=⟨zOo,fun (x:zQh)=>MC x.1 x.2.1 x.2.2.1/\∀ y,x.2.2.2.1.1 y,
 fun (x:zQh)=>{res:=[.val (.prod (.sl (.sl .int)) (.sl .int)) (stepP x.1 x.2.1 x.2.2.1 (zEt x.1 x.2.1 x.2.2.1 x.2.2.2.1.2),zBM x.1 x.2.1 x.2.2.1 (zEt x.1 x.2.1 x.2.2.1 x.2.2.2.1.2))]}⟩
set_option maxRecDepth 20000 in
theorem zRw:FnSpec Tryz.prog 162 zRv:=by
 refine ⟨⟨_,Tryz.func162,by kernel_rfl,rfl⟩,fun C γ x vs hpre hen=>?_⟩
 have hP:=hen.P
 have hlt:=hen.ownlt
 obtain ⟨hm,hq⟩:=hpre
 have hargs:=hen.args
 obtain ⟨(a:List Int),(b:List Int),(c:List (List Int)),⟨(q:List Int×Int×Unit->Prop),(p:List Int×Int×Unit->Bool)⟩,_⟩:=x
 dsimp only at hm hq
 obtain ⟨va,_,rfl,ha,vb,_,rfl,hb,vc,_,rfl,hc,vf,_,rfl,hf,rfl⟩:=hargs
 have hmf:∀ (fn:Fn) (first cap:Array Value) (w:World),(Instr.makeFunc fn first cap).run Tryz.prog w=.ok (.func fn first cap) w:=fun _ _ _ _=>rfl
 show Calls _ _ #[va,vb,vc,vf] C.w0 _
 obtain ⟨w,hw⟩:∃ w,w=C.w0:=⟨_,rfl⟩
 obtain ⟨W,hW⟩:∃ W,W=w.alloc (.cells #[.slice none 0 0,.slice none 0 0] 169):=⟨_,rfl⟩
 have hsz:W.heap.size=w.heap.size+1:=by rw [hW]; simp only [World.alloc,Array.size_push]
 have hold:∀ k,k<w.heap.size->W.heap[k]?=w.heap[k]?:=fun k hk=>by rw [hW]; simp only [World.alloc,b7]; rw [ae (by omega)]
 have hnew:W.heap[w.heap.size]?=some (.cells #[.slice none 0 0,.slice none 0 0] 169 (0,0)):=by rw [hW]; simp only [World.alloc,b7,if_true]
 have hkW:∀ L,Keep L w W:=fun L=>⟨by rw [hW]; rfl,by rw [hW]; rfl,by rw [hW]; rfl,by omega,fun k hk _=>hold k hk⟩
 let C1:Ctx:=⟨Tryz.prog,fun _=>False,W,fun b=>C.zn γ b/\b<w.heap.size,0,fun _=>undef,fun _=>0,[]⟩
 let γ1:Gam:=⟨fun _=>⟨none,0,0⟩,fun _ _=>⟨none,0,0⟩,fun _=>0,fun _=>none⟩
 have hmono:∀ (s:Sh) (x:s.T) v,vrep w (C.zn γ) s x v->vrep W (C1.zn γ1) s x v:=fun s x v ⟨cs,h1,h2⟩=>⟨cs,zAu (by omega) (fun b hb hz=>⟨⟨.inl ⟨hz,hb⟩,rfl⟩,hold b hb⟩) s x cs h1,h2⟩
 rw [<-hw] at ha hb hc
 have hf':FnOK C1.P C1.L C1.w0 [.sl .int,.int] .bool q p vf:=by
  obtain ⟨f,pre,caps,e1,e2,e3⟩:=hf
  rw [hP] at e2 e3
  exact ⟨f,pre,caps,e1,e2,fun w1 Z x vs hk hg hqx hargs=>e3 w1 Z x vs (by rw [<-hw]; exact (hkW C.L).step hk (fun b hb _=>hb.elim)) hg hqx hargs⟩
 have hgd:Gd C1.P C1.w0:=by
  have h1:=hen.ds.2.gd
  rw [hP,<-hw] at h1
  exact h1.later (hkW _)
 have hcall:=zPK C1 γ1 (a,b,c,(q,p),()) [va,vb,vc,vf] hm hq ⟨rfl,rfl,⟨rfl,hgd,fun k hk=>hk.elim⟩,fun r hr=>absurd hr (bE _),fun k l h=>(by cases h),⟨va,_,rfl,hmono _ _ _ ha,vb,_,rfl,hmono _ _ _ hb,vc,_,rfl,hmono _ _ _ hc,vf,_,rfl,hf',rfl⟩,fun p hp=>(by cases hp),fun p hp=>(by cases hp)⟩
 rw [<-hw]
 go_enter_defers Tryz.func162,Tryz.ntmps162
 rw [show [va,vb,vc,vf].toArray=#[va,vb,vc,vf] from rfl] at hcall
 have hcall':Calls Tryz.prog 203 #[va,vb,vc,vf] (C.w0.alloc (.cells #[.slice none 0 0,.slice none 0 0] 169)) (fun e w'=>∃ ch,e=.panicked ch/\zHi C1 169 (.sl (.sl .int)) (.sl .int) (stepP a b c (zEt a b c p)) (zBM a b c (zEt a b c p)) ch w'):=by rw [<-hw,<-hW]; exact hcall
 go_wp2_with (go_at_call 203; refine hcall'.mono ?_; rintro e w2 ⟨ch,rfl,g1,u,v,rfl,⟨cu,hu,rfl⟩,⟨cv,hv,rfl⟩,hk⟩)
 rw [<-hw]
 have hu':=hu
 have hv':=hv
 obtain ⟨a1,c1,rfl,_⟩:=hu'
 obtain ⟨a2,c2,rfl,_⟩:=hv'
 have hb2:w2.heap[w.heap.size]?=some (.cells #[.slice none 0 0,.slice none 0 0] 169 (0,0)):=(hk.block w.heap.size (show w.heap.size<W.heap.size by omega) (fun h=>h)).trans hnew
 have hk2:Keep C.L w w2:=(hkW C.L).step hk (fun b hb _=>hb.elim)
 have hmono2:∀ (w3:World),Keep (fun k=>k=w.heap.size) w2 w3->∀ (s:Sh) (x:s.T) cs,pers w2 (C1.zn g1) s x cs->pers w3 (C.zn γ) s x cs:=fun w3 hk3 s x cs hx=>by
  refine zAu hk3.size (fun b hb hz=>?_) s x cs hx
  obtain ⟨hz1,_⟩:=hz
  rcases hz1 with ⟨h1,h2⟩|h1|h1
  ·exact ⟨h1,hk3.block b hb (by omega)⟩
  ·have h1':W.heap.size<=b:=h1
   refine ⟨⟨.inr (.inl (by rw [<-hw]; omega)),?_⟩,hk3.block b hb (by omega)⟩
   cases ho:γ.own b with
   | none=>rfl
   | some l=>exact absurd (hlt b l ho) (by rw [<-hw]; omega)
  ·exact h1.elim
 show Leaves Tryz.prog _ _ _ _ (.panicking _) w2
 refine leaves_cons (f:=202) (args:=#[.pointer (some ⟨w.heap.size,0,none⟩)]) (by simp) (by simp [go_sem]) ?_
 refine (zMh w.heap.size a1 a2 _ c1 _ c2 w2 _ _ _ hb2).mono ?_
 rintro e u' w3 ⟨rfl,rfl,hk3,hc3⟩
 have k0:w3.cell? ⟨w.heap.size,0,none⟩=some (.slice a1 (stepP a b c (zEt a b c p)).length c1):=by simp [World.cell?,hc3]
 have k1:w3.cell? ⟨w.heap.size,1,none⟩=some (.slice a2 (zBM a b c (zEt a b c p)).length c2):=by simp [World.cell?,hc3]
 have hu3:=hmono2 w3 hk3 _ _ _ hu
 have hv3:=hmono2 w3 hk3 _ _ _ hv
 have hkeep:Keep C.L w w3:=hk2.step hk3 (fun b hb hlt=>absurd hlt (by omega))
 simp [Leaves,settle,results,Tryz.results162,go_sem,k0,k1]
 exact ⟨⟨γ,⟨[],[],[_],rfl,⟨_,[],rfl,⟨_,⟨_,_,rfl,hu3,hv3⟩,rfl⟩,rfl,rfl,rfl⟩,List.nodup_nil,List.nodup_nil⟩,fun p hp=>absurd hp (bA),fun p hp=>absurd hp (bA),fun k l hl=>by have h1:=hlt k l hl; rw [<-hw] at h1; have:=hkeep.size; omega⟩,hkeep⟩
end Go.Proofs.YtekfodeknpnkbaaGreatDoor
namespace Go.Proofs.YtekfodeknpnkbaaGreatDoor
open Go.RowKit Go.VS Go.OT
theorem zBg (l:List Int):lsum l=sumL l:=by
 have key:∀ k,k<=l.length->lsum (l.take k)=sg k (ga l):=by
  intro k
  induction k with
  | zero=>intro _; simp [lsum,sg]
  | succ k ih =>
   intro hk
   rw [zBR l k (by omega),ih (by omega)]
   rfl
 have:=key l.length (ap _)
 rwa [bS] at this
def errW (w:Int):Int:=if 0<=w/\w<=99 then 0 else 1
def errWd (a b:List Int) (c:List (List Int)) (w:Int):Int:=if zCT a b c=0 then errW w else zCT a b c
theorem zXS (a b:List Int) (c:List (List Int)) (w:Int):orV [zCT a b c,errW w]=errWd a b c w:=by
 unfold errWd
 simp only [zD7,zHN]
 split
 ·split
  ·rename_i h; exact h.symm
  ·rfl
 ·rfl
theorem zCn {a b:List Int} {c:List (List Int)} {w:Int} (h:errWd a b c w=0):ForOK a b c/\0<=w/\w<=99:=by
 unfold errWd at h
 split at h
 ·rename_i h1
  refine ⟨zQZ h1,?_⟩
  unfold errW at h
  split at h
  ·assumption
  ·omega
 ·rename_i h1; exact absurd h h1
theorem zD6:FnSpec Tryz.prog 117 zOz:=by
 refine FnSpec.of_tri' (E:=know [] [] [] []) (zAl all_nil all_nil all_nil) Tryz.func117 rfl rfl kr ?_
 intro C x hE hnl hfit hpre
 simp only [Tryz.ntmps117,Tryz.results117,maxLen,seval,push_cast] at hnl hfit hpre ⊢
 obtain ⟨(l:List Int),_⟩:=x
 dsimp only at hfit hpre ⊢
 repeat' (first|(refine goK (by assumption) ?_; iterate 4 (try clear hK K))|(refine zAb fun K hK=>?_)|(refine zAa hE rfl ?_; simp +contextual only [hnl,↓kA,push_cast,seval,reduceCtorEq,cI])|refine zAc ?_|fail)
 refine zAk (fun k:Nat=>AS.of [(0,.one (.val (.sl .int) l)),(3,.I (lsum (l.take k))),(6,.one (.val (.sl .int) l)),(7,.I l.length),(8,.I k)] [] []) (fun k=>k<=l.length) (fun k=>l.length - k) 0 (aq _) ?_ ?_
 ·refine zAf ?_ ?_ ?_<;>simp only [push_cast,seval,reduceCtorEq,cI]
  simp [lsum]
 intro k hk K' hL
 repeat' (first|(refine goK (by assumption) ?_; iterate 4 (try clear hK K))|(refine zAb fun K hK=>?_)|((first|refine zAa hE rfl ?_|refine zAi ?_); simp +contextual only [hnl,↓kA,push_cast,seval,reduceCtorEq,cI])|refine zAc ?_|((first|refine zAg ?_|refine zAj ?_); simp only [thenQ,zAh,if_true,if_false,Nat.reduceEqDiff,reduceCtorEq])|(refine zAe (by rfl) (fun hb=>?_) (fun hb=>?_)<;>(try simp only [bq,reduceCtorEq] at hb)<;>(try omega))|refine andS ?_|fail)
 ·refine ⟨by rw [<-zBR l k (by omega)]; exact hpre _,?_⟩
  repeat' (first|(refine goK (by assumption) ?_; iterate 4 (try clear hK K))|(refine zAa hE rfl ?_; simp +contextual only [hnl,↓kA,push_cast,seval,reduceCtorEq,cI])|refine andS ?_|fail)
  refine hL _ (k+1) (by omega) (by omega) ?_
  refine zAf ?_ ?_ ?_<;>simp only [push_cast,seval,reduceCtorEq,cI]
  exact (zBR l k (by omega)).symm
 ·obtain rfl:k=l.length:=by omega
  simp
theorem zK3:FnSpec Tryz.prog 161 zEH:=by
 refine FnSpec.of_tri' (E:=know [] [] [] []) (zAl all_nil all_nil all_nil) Tryz.func161 rfl rfl kr ?_
 intro C x hE hnl hfit hpre
 simp only [Tryz.ntmps161,Tryz.results161,maxLen,seval,push_cast] at hnl hfit hpre ⊢
 obtain ⟨(n:Int),(lo:Int),(hi:Int),_⟩:=x
 dsimp only at hfit hpre ⊢
 repeat' (first|(refine goK (by assumption) ?_; iterate 4 (try clear hK K))|(refine zAb fun K hK=>?_)|((first|refine zAa hE rfl ?_|refine zAi ?_); simp +contextual only [hnl,↓kA,push_cast,seval,reduceCtorEq,cI])|(refine ⟨fun hc=>?_,fun hc=>?_⟩)|fail)
 all_goals first|omega|(simp only [decide_eq_decide]; omega)|(simp only [hc,decide_true,decide_false,Bool.true_or,bC]; done)|(simp; done)|(simp; omega)|(simp [*]; done)|(simp [*]; omega)
@[push_cast] def zUQ:Con:=⟨[.dat .int],fun _=>True,fun (x:Int×Unit)=>{res:=[.val .int (errW x.1)]}⟩
theorem zGF:FnSpec Tryz.prog 114 zUQ:=by
 refine FnSpec.of_tri' (E:=know _ [] [] []) (zAl (kc zK3 all_nil) all_nil all_nil) Tryz.func114 rfl rfl kr ?_
 intro C x hE hnl hfit hpre
 simp only [Tryz.ntmps114,Tryz.results114,maxLen,seval,push_cast] at hnl hfit hpre ⊢
 obtain ⟨(w:Int),_⟩:=x
 dsimp only at hfit hpre ⊢
 repeat' (first|(refine goK (by assumption) ?_; iterate 4 (try clear hK K))|(refine zAb fun K hK=>?_)|((first|refine zAa hE rfl ?_|refine zAi ?_); simp +contextual only [hnl,↓kA,push_cast,seval,reduceCtorEq,cI])|(refine zAg ?_; simp only [thenQ,zAh,if_true,if_false,Nat.reduceEqDiff,reduceCtorEq])|(refine zAe (by rfl) (fun hb=>?_) (fun hb=>?_)<;>(try simp only [bq,reduceCtorEq] at hb)<;>(try omega))|fail)
 all_goals first|exact (ae (by omega)).symm|exact (ah (by omega)).symm
theorem zPj:FnSpec Tryz.prog 113 zUO:=by
 refine FnSpec.of_tri' (E:=know _ [] [] []) (zAl (kc zJm (kc zEW (kc zJ5 all_nil))) all_nil all_nil) Tryz.func113 rfl rfl kr ?_
 intro C x hE hnl hfit hpre
 simp only [Tryz.ntmps113,Tryz.results113,maxLen,seval,push_cast] at hnl hfit hpre ⊢
 obtain ⟨(a:List Int),(b:List Int),(c:List (List Int)),_⟩:=x
 dsimp only at hfit hpre ⊢
 have hA:orV [zAq a,zAq b,zAH c]=0->0<c.length:=fun h=>by have:=(zCa (zG9 h).2.2).rows; omega
 have hW:orV [zAq a,zAq b,zAH c]=0->c.length=a.length->(c.getD 0 []).length=b.length->ForOK a b c:=fun h h1 h2 =>
  ⟨zEN (zG9 h).1,zEN (zG9 h).2.1,zCa (zG9 h).2.2,h1,h2⟩
 repeat' (first|(refine goK (by assumption) ?_; iterate 4 (try clear hK K))|(refine zAb fun K hK=>?_)|((first|refine zAa hE rfl ?_|refine zAi ?_); simp +contextual only [hnl,↓kA,push_cast,seval,reduceCtorEq,cI])|(refine zAg ?_; simp only [thenQ,zAh,if_true,if_false,Nat.reduceEqDiff,reduceCtorEq])|(refine zAe (by rfl) (fun hb=>?_) (fun hb=>?_)<;>(try simp only [bq,reduceCtorEq] at hb)<;>(try omega))|refine andS ?_|(refine ⟨fun hc=>?_,fun hc=>?_⟩)|fail)
 ·exact zV8 hb
 ·exact zNW (by omega)
 ·exact (zJM (hW (by assumption) (by omega) (by omega))).symm
 ·exact zNV (by omega)
@[push_cast] def zLU:Con:=⟨[.dat (.sl .int),.dat (.sl .int),.dat (.sl (.sl .int)),.dat .int],fun _=>True,fun (x:List Int×List Int×List (List Int)×Int×Unit)=>{res:=[.val .int (errWd x.1 x.2.1 x.2.2.1 x.2.2.2.1)]}⟩
theorem zEf:FnSpec Tryz.prog 67 zLU:=by
 refine FnSpec.of_tri' (E:=know _ [] [] []) (zAl (kc zPj (kc zGF (kc zJ5 all_nil))) all_nil all_nil) Tryz.func67 rfl rfl kr ?_
 intro C x hE hnl hfit hpre
 simp only [Tryz.ntmps67,Tryz.results67,maxLen,seval,push_cast] at hnl hfit hpre ⊢
 obtain ⟨(a:List Int),(b:List Int),(c:List (List Int)),(w:Int),_⟩:=x
 dsimp only at hfit hpre ⊢
 have h0:=zXS a b c w
 replace hnl:=aa hnl h0
 exact auB
@[push_cast] def zQx:Con:=⟨[.dat (.sl .int),.dat .int,.ptr .int],fun (x:List Int×Int×Int×Unit)=>0<=x.2.2.1/\x.2.2.1<=99,fun (x:List Int×Int×Int×Unit)=>{res:=[.val .bool (decide (2*x.2.2.1<=x.2.1))]}⟩
@[push_cast] def zKu:Clo:=⟨[.int],[.sl .int,.int],.bool,fun (y:Int×Unit) _=>0<=y.1/\y.1<=99,fun (y:Int×Unit) (x:List Int×Int×Unit)=>decide (2*y.1<=x.2.1)⟩
theorem zQy:FnSpec Tryz.prog 163 zQx:=by
 refine FnSpec.of_tri' (E:=know [] [] [] []) (zAl all_nil all_nil all_nil) Tryz.func163 rfl rfl kr ?_
 intro C x hE hnl hfit hpre
 simp only [Tryz.ntmps163,Tryz.results163,maxLen,seval,push_cast] at hnl hfit hpre ⊢
 obtain ⟨(l:List Int),(n:Int),(w:Int),_⟩:=x
 dsimp only at hfit hpre ⊢
 exact auB
theorem zMi:CloSpec Tryz.prog 163 zKu:=CloSpec.of zQy
@[push_cast] def zRm:Con:=⟨[.dat (.sl .int),.dat (.sl .int),.dat (.sl (.sl .int)),.dat .int],fun (x:List Int×List Int×List (List Int)×Int×Unit)=>MC x.1 x.2.1 x.2.2.1/\0<=x.2.2.2.1/\x.2.2.2.1<=99,
 fun (x:List Int×List Int×List (List Int)×Int×Unit)=>{res:=[.val (.prod (.sl (.sl .int)) (.sl .int)) (stepP x.1 x.2.1 x.2.2.1 (fewK x.1 x.2.1 x.2.2.1 x.2.2.2.1),zBM x.1 x.2.1 x.2.2.1 (fewK x.1 x.2.1 x.2.2.1 x.2.2.2.1))]}⟩
theorem zQ6 (a b:List Int) (c:List (List Int)) (w:Int):zEt a b c (fun x=>decide (2*w<=x.2.1))=fewK a b c w:=rfl
theorem zHC:FnSpec Tryz.prog 115 zRm:=by
 refine FnSpec.of_tri' (E:=know [(162,zRv)] [(163,zKu)] [] []) (zAl (all_cons zRw all_nil) (all_cons zMi all_nil) all_nil) Tryz.func115 rfl rfl kr ?_
 intro C x hE hnl hfit hpre
 simp only [Tryz.ntmps115,Tryz.results115,maxLen,seval,push_cast] at hnl hfit hpre ⊢
 obtain ⟨(a:List Int),(b:List Int),(c:List (List Int)),(w:Int),_⟩:=x
 dsimp only at hfit hpre ⊢
 obtain ⟨hm,h0,h99⟩:=hpre
 replace hnl:=aa hnl (aa hm (aa h0 (aa h99 (zQ6 a b c w))))
 exact auB
structure FullP (a b:List Int) (w k u:Int):Prop where
 sa:∀ m,InR (lsum (a.take m))
 sb:∀ m,InR (lsum (b.take m))
 la:0<=lsum a/\lsum a<=1200
 lb:0<=lsum b/\lsum b<=1200
 w:0<=w/\w<=99
 k:0<=k/\k<=100000000000
 u:0<=u/\u<=100000000000
theorem MC.sums {a b:List Int} {c:List (List Int)} (h:ForOK a b c):(∀ m,InR (lsum (a.take m)))/\(∀ m,InR (lsum (b.take m)))/\(0<=lsum a/\lsum a<=1200)/\(0<=lsum b/\lsum b<=1200):=by
 have hm:=h.mc
 have h1:sumL a<=a.length*200:=zLA _ fun i hi=>(hm.ha.at hi).2
 have h2:sumL b<=b.length*200:=zLA _ fun i hi=>(hm.hb.at hi).2
 have:=hm.sum_nn
 have:=hm.a5
 have:=hm.b5
 rw [zBg,zBg]
 exact ⟨zI4 h.ha,zI4 h.hb,by omega,by omega⟩
@[push_cast] def zVA:Con:=⟨[.dat (.sl .int),.dat (.sl .int),.dat .int,.dat .int,.dat .int],fun (x:List Int×List Int×Int×Int×Int×Unit)=>FullP x.1 x.2.1 x.2.2.1 x.2.2.2.1 x.2.2.2.2.1,
 fun (x:List Int×List Int×Int×Int×Int×Unit)=>{res:=[.val .int (x.2.2.2.1+x.2.2.1*(lsum x.1+lsum x.2.1 - 2*x.2.2.2.2.1))]}⟩
theorem zRL {w x:Int} (h:0<=w/\w<=99) (hx : -1000000000000<=x/\x<=1000000000000) : -99000000000000<=w*x/\w*x<=99000000000000:=by
 obtain ⟨n,rfl⟩:∃ n:Nat,w=n:=⟨w.toNat,by omega⟩
 have key:∀ n:Nat,-(n*1000000000000:Int)<=n*x/\(n*x:Int)<=n*1000000000000:=by
  intro n
  induction n with
  | zero=>simp
  | succ n ih =>
   rw [Int.natCast_add,Int.add_mul,Int.add_mul]
   omega
 have:=key n
 omega
theorem zKM:FnSpec Tryz.prog 71 zVA:=by
 refine FnSpec.of_tri' (E:=know _ [] [] []) (zAl (kc zD6 all_nil) all_nil all_nil) Tryz.func71 rfl rfl kr ?_
 intro C x hE hnl hfit hpre
 simp only [Tryz.ntmps71,Tryz.results71,maxLen,seval,push_cast] at hnl hfit hpre ⊢
 obtain ⟨(a:List Int),(b:List Int),(w:Int),(k:Int),(u:Int),_⟩:=x
 dsimp only at hfit hpre ⊢
 obtain ⟨h1,h2,h3,h4,h5,h6,h7⟩:=hpre
 have h8:=zRL h5 (x:=lsum a+lsum b - 2*u) (by omega)
 replace hnl:=aa hnl (aa (fun m=>aG (h1 m)) (fun m=>aG (h2 m)))
 exact auB
@[push_cast] def zKZ:Con:=⟨[.dat (.sl .int),.dat (.sl .int),.dat (.sl (.sl .int)),.dat .int],fun (x:List Int×List Int×List (List Int)×Int×Unit)=>ForOK x.1 x.2.1 x.2.2.1/\0<=x.2.2.2.1/\x.2.2.2.1<=99,
 fun (x:List Int×List Int×List (List Int)×Int×Unit)=>{res:=[.val .int (zB0 x.1 x.2.1 x.2.2.1 x.2.2.2.1)]}⟩
theorem zMI:FnSpec Tryz.prog 68 zKZ:=by
 refine FnSpec.of_tri' (E:=know _ [] [] []) (zAl (kc zHC (kc zKM all_nil)) all_nil all_nil) Tryz.func68 rfl rfl kr ?_
 intro C x hE hnl hfit hpre
 simp only [Tryz.ntmps68,Tryz.results68,maxLen,seval,push_cast] at hnl hfit hpre ⊢
 obtain ⟨(a:List Int),(b:List Int),(c:List (List Int)),(w:Int),_⟩:=x
 dsimp only at hfit hpre ⊢
 obtain ⟨hf,h0,h99⟩:=hpre
 have hm:=hf.mc
 have hk:=(zFF hm w).1
 have hl:=zI5 a b c (fewK a b c w)
 have hmx:=zOb hm
 have hpb:=zHc hm _ hk
 obtain ⟨s1,s2,s3,s4⟩:=MC.sums hf
 have e2:(((zBM a b c (fewK a b c w)).length:Int) - 1)=(fewK a b c w:Nat):=by omega
 have e3:=zLg a b c (ap (fewK a b c w))
 have hfp:FullP a b w (partV a b c (fewK a b c w)) (fewK a b c w:Nat):=⟨s1,s2,s3,s4,⟨h0,h99⟩,by omega,by omega⟩
 have e4:partV a b c (fewK a b c w)+w*(lsum a+lsum b - 2*(fewK a b c w:Nat))=zB0 a b c w:=by rw [zBg,zBg]; rfl
 replace hnl:=aa hnl (aa hm (aa h0 (aa h99 (aa e2 (aa e3 (aa (aG hfp) e4))))))
 exact auB
end Go.Proofs.YtekfodeknpnkbaaGreatDoor
namespace Go.Proofs.YtekfodeknpnkbaaGreatDoor
open Go.RowKit Go.VS Go.OT
theorem zG2 (n:Nat) (hn:0<n/\n<=1000) (w:World) (ty:TypeId):(Builtin.append_ #[38,3] ty #[.slice none 0 0,.int .i64 n]).run Tryz.prog w =
 .ok (.slice (some ⟨w.heap.size,0,none⟩) n (grownCap w n 0 3)) (w.drew.alloc (.cells (Builtin.zeroCells #[.int .i64 0] n++Builtin.zeroCells #[.int .i64 0] (grownCap w n 0 3 - n)) 3)):=by
 have h1:=aH (P:=Tryz.prog) Tryz.underlying38
 have h2:=aH (P:=Tryz.prog) Tryz.underlying3
 obtain ⟨i,z,hi,hs,hby,hz,hzc⟩:=tabOK.lang.info 3 .int shI
 have hs1:i.size=1:=hs
 have hai:∀ w,(asInt (.int .i64 (n:Int))).run Tryz.prog w=.ok (n:Int) w:=fun _=>rfl
 have hwr:IntKind.i64.wrap (n:Int)=n:=cc _ (by omega)
 have hzz:z.cells=#[.int .i64 0]:=by rw [<-Array.toList_inj]; exact hzc
 have hb:¬(281474976710656:Int)<(n:Int)*i.bytes:=by
  have:=cP hn.2 hby
  have h3:((n*i.bytes:Nat):Int)<=((1000*1024:Nat):Int):=by omega
  rw [Int.natCast_mul] at h3
  omega
 have hb2:¬281474976710656<n*i.bytes:=by
  have:=cP hn.2 hby
  omega
 have h63:¬(9223372036854775807:Int)<n:=by omega
 have hn0:n≠0:=by omega
 have hl:¬(n:Int)<0:=by omega
 simp [Builtin.append_,h1,h2,sizeOf,typeInfo,zeroValue,hi,hai,hwr,hs1,hz,hzz,hb,hb2,h63,hn0,hl,nextslicecap_zero (show 0<n by omega),Question.forced,run_firstCells_none,newRow,grownCap]
set_option maxRecDepth 20000 in
theorem zTp (n:Nat) (hn:0<n/\n<=1000) (w:World):Calls Tryz.prog 205 #[.slice none 0 0,.int .i64 n] w fun e w' =>
 e=.returned (.slice (some ⟨w.heap.size,0,none⟩) 0 (grownCap w n 0 3))/\w'=w.drew.alloc (.cells (Builtin.zeroCells #[.int .i64 0] n++Builtin.zeroCells #[.int .i64 0] (grownCap w n 0 3 - n)) 3):=by
 have hap:=zG2 n hn w 38
 have hwr:IntKind.i64.wrap (n:Int)=n:=cc _ (by omega)
 go_enter Tryz.func205,Tryz.ntmps205
 have hb8:Tryz.t3.bytes=8:=by kernel_rfl
 have hns:=nextslicecap_zero (show 0<n by omega)
 go_wp2
 all_goals simp only [hb8,hns] at *
 all_goals first
  | (exfalso; omega)
  | (simp [bodyPost,results,Tryz.results205,go_sem]; exact ⟨rfl,rfl⟩)
theorem zJu (n:Nat):(Builtin.zeroCells #[.int .i64 0] n).size=n:=by simp [Builtin.zeroCells]
theorem zUy {C:Ctx} {N:Nat} {Q:Exit->AS->Prop} {s:AS} {E:Know} (hE:KnowOK C.P E) (hP:C.P=Tryz.prog) {id d x:Nat} {ats:Array TypeId} {ty:TypeId} {pos:String} {af:Array Edge} {L:List Oper} (n:Nat) (hnl:C.nl<=d)
 (hL:L=L.take n++⟨some d,.call {callee:=.value (.func 205),args:=#[.const (.slice none 0 0),.tmp x],argTypes:=ats},ty,pos,af,none⟩::L.drop (n+1)) (hd:zDE N L=true)
 (h:runK E C.nl L.toArray (L.take n) s fun s'=>∃ m:Int,s'.env x=.one (.val .int m)/\0<m/\m<=1000 /\
  runK E C.nl L.toArray (L.drop (n+1)) (((s'.map (killR d)).setRoot d (some (.flat 3 .int []))).put (some d) (.one (.ref d))) (Q .normal)):tri C N (.region id L.toArray false) Q s:=by
 refine ⟨fun γ a w hr hN=>?_⟩
 have hd':∀ (j:Nat) (o:Oper),L.toArray[j]?=some o->dstOK N o.dst=true:=fun j o ho=>zBd (ops:=L.toArray) (by simpa using hd) j o ho
 have hb:=ay.1 hd
 have hdd:d<N:=by
  have:=hb ⟨some d,.call {callee:=.value (.func 205),args:=#[.const (.slice none 0 0),.tmp x],argTypes:=ats},ty,pos,af,none⟩ (by rw [hL]; simp)
  simpa [dstOK] using this
 refine wp_region_lit ?_
 have key:=runK_then (N:=N) (rest:=⟨some d,.call {callee:=.value (.func 205),args:=#[.const (.slice none 0 0),.tmp x],argTypes:=ats},ty,pos,af,none⟩::L.drop (n+1)) hE (Q:=fun e a' w'=>∃ s' γ',Rel C γ' s' a' w'/\a'.tmps.size=N/\Q e s') hd'
  (fun s' γ' a' w' h1 h2 h3=>?_) (L.take n) s γ a w (fun o ho=>hb o (bV ho)) hN hr h
 ·rw [<-hL] at key
  exact key
 obtain ⟨m,k1,k2,k3,k4⟩:=h3
 have hx:=h1.env x
 rw [k1] at hx
 obtain ⟨k,rfl⟩:∃ k:Nat,m=k:=⟨m.toNat,by omega⟩
 have hxv:a'.tmps.getD x undef=.int .i64 (k:Int):=zAC hx
 have hcal:zA5 C.P 205:=by rw [hP]; exact ⟨_,Tryz.func205,by kernel_rfl,rfl⟩
 refine wpList_step fun K' hK'=>?_
 simp only [Region.wanted,if_true]
 have e1:=zDh hcal (ρ:=a'.eval) (x:=.func 205) (caps:=#[]) rfl #[.const (.slice none 0 0),.tmp x] ats (some d) ty pos af none w'
 simp only [Oper.wp,e1,Oper.upon]
 have hargs:#[Operand.const (.slice none 0 0),.tmp x].map a'.eval++#[]=#[.slice none 0 0,.int .i64 (k:Int)]:=by
  have hxv':=hxv
  simp only [bH] at hxv'
  simp [Act.eval,hxv']
 rw [hargs,hP]
 refine (zTp k (by omega) w').mono ?_
 rintro e w2 ⟨rfl,rfl⟩
 refine hK' _ _ ?_
 have hge:=grownCap_ge w' k 0 3
 have hcm:grownCap w' k 0 3<=maxLen:=grownCap_le_maxLen w' k 0 3 (by unfold maxLen; omega)
 obtain ⟨W,hW⟩:∃ W,W=w'.drew.alloc (.cells (Builtin.zeroCells #[.int .i64 0] k++Builtin.zeroCells #[.int .i64 0] (grownCap w' k 0 3 - k)) 3):=⟨_,rfl⟩
 rw [<-hW]
 have hheap:W.heap[w'.heap.size]?=some (.cells (Builtin.zeroCells #[.int .i64 0] k++Builtin.zeroCells #[.int .i64 0] (grownCap w' k 0 3 - k)) 3 (0,0)):=by
  rw [hW]; exact heap_alloc_new w'.drew _
 have hgr:w'.grownBy W none:=by
  rw [hW]
  exact ⟨rfl,rfl,rfl,by simp,fun k hk _=>Below.heap_alloc w'.drew _ k hk⟩
 let X:Sl:=⟨some ⟨w'.heap.size,0,none⟩,0,grownCap w' k 0 3⟩
 have hXb:∀ b,X.v.ownBlock=some b->b=w'.heap.size/\b<W.heap.size:=fun b hb=>by
  simp only [X,Sl.v,Value.ownBlock,ac] at hb
  subst hb
  exact ⟨rfl,(aP.1 hheap).1⟩
 have hrel:Rel C (zBS γ' d X (γ'.rs d) w'.heap.size) ((s'.map (killR d)).setRoot d (some (.flat 3 .int []))) a' W:=by
  refine zGr h1 hnl X (γ'.rs d) hgr hXb ⟨rfl,?_,?_⟩
  ·rw [zAV]
   exact ⟨rfl,.inr ⟨w'.heap.size,_,_,rfl,aq _,hheap,aq _,hcm,by rw [Array.size_append,zJu,zJu]; show k+(grownCap w' k 0 3 - k)=grownCap w' k 0 3*1; omega,rfl⟩⟩
  ·rw [zAV]
   exact zC9 h1 (fun b hb=>(hXb b hb).1)
 have hput:=hrel.put (d:=some d) (by simp [dstOK,h2,hdd]) (sv:=.one (.ref d)) (v:=X.v) (by simp only [svRep,bvRep]; rw [zAV])
 exact zDa (N:=N) hE hd' (fun s2 γ2 a2 w2 g1 g2 g3=>⟨s2,γ2,g1,g2,g3⟩) (L.drop (n+1)) _ _ _ _ (fun o ho=>hb o (cA ho)) (by simp [Act.put,h2]) hput k4
structure CatP (l:List (List Int)):Prop where
 n:l.length<=10
 row:∀ k,k<l.length->(l.getD k []).length<=100
 pos:0<l.flatten.length
def catK (l:List (List Int)) (k:Nat):List Int:=(l.take k).flatten
theorem zJE {l:List (List Int)} {k:Nat} (h:k<l.length):catK l (k+1)=catK l k++l.getD k []:=by
 unfold catK
 rw [bb h,List.flatten_append]
 simp [ab,h]
theorem zVf (l:List (List Int)):catK l l.length=l.flatten:=by simp [catK]
theorem CatP.le {l:List (List Int)} (h:CatP l):∀ k,k<=l.length->(catK l k).length<=100*k
 | 0,_=>by simp [catK]
 | k+1,hk=>by
  have:=h.le k (by omega)
  have:=h.row k (by omega)
  rw [zJE (by omega),aL]
  omega
@[push_cast] def zKA:Con:=⟨[.dat (.sl (.sl .int))],fun (x:List (List Int)×Unit)=>CatP x.1,fun (x:List (List Int)×Unit)=>{res:=[.own (.flat 3 .int x.1.flatten)]}⟩
theorem zMk:FnSpec Tryz.prog 166 zKA:=by
 refine FnSpec.of_triP (E:=know [] [] [] []) (zAl all_nil all_nil all_nil) Tryz.func166 rfl rfl kr ?_
 intro C x hP hE hnl hfit hpre
 simp only [Tryz.ntmps166,Tryz.results166,maxLen,seval,push_cast] at hnl hfit hpre ⊢
 obtain ⟨(l:List (List Int)),_⟩:=x
 dsimp only at hfit hpre ⊢
 have hl10:=hpre.n
 have hle:=hpre.le
 have hpos:=hpre.pos
 have hall:=zVf l
 repeat' (first|(refine goK (by assumption) ?_; iterate 4 (try clear hK K))|(refine zAb fun K hK=>?_)|((first|refine zAa hE rfl ?_|refine zAi ?_); simp +contextual only [hnl,↓kA,push_cast,seval,reduceCtorEq,cI])|refine zAc ?_|((first|refine zAg ?_|refine zAj ?_); simp only [thenQ,zAh,if_true,if_false,Nat.reduceEqDiff,reduceCtorEq])|(refine zAe (by rfl) (fun hb=>?_) (fun hb=>?_)<;>(try simp only [bq,reduceCtorEq] at hb)<;>(try omega))|refine zAF (by rfl) ?_ ?_|refine andS ?_|(refine ⟨fun hc=>?_,fun hc=>?_⟩)|(intro hc; try omega))
 refine zAk (fun k:Nat=>AS.of [(0,.one (.val (.sl (.sl .int)) l)),(2,.one .nils),(3,.I (catK l k).length),(9,.one (.val (.sl (.sl .int)) l)),(10,.I l.length),(11,.I k)] [] []) (fun k=>k<=l.length) (fun k=>l.length - k) 0 (aq _) ?_ ?_
 ·refine zAf ?_ ?_ ?_<;>simp only [push_cast,seval,reduceCtorEq,cI]
  rfl
 intro k hk K' hL
 rcases ai k l.length with hkl|hkl
 ·have hs:=congrArg List.length (zJE hkl)
  rw [aL] at hs
  have h1:=hle k hk
  have h2:=hpre.row k hkl
  repeat' (first|(refine goK (by assumption) ?_; iterate 4 (try clear hK K))|(refine zAb fun K hK=>?_)|((first|refine zAa hE rfl ?_|refine zAi ?_); simp +contextual only [hnl,↓kA,push_cast,seval,reduceCtorEq,cI])|refine zAc ?_|((first|refine zAg ?_|refine zAj ?_); simp only [thenQ,zAh,if_true,if_false,Nat.reduceEqDiff,reduceCtorEq])|(refine zAe (by rfl) (fun hb=>?_) (fun hb=>?_)<;>(try simp only [bq,reduceCtorEq] at hb)<;>(try omega))|refine zAF (by rfl) ?_ ?_|refine andS ?_|(refine ⟨fun hc=>?_,fun hc=>?_⟩)|(intro hc; try omega))
  refine hL _ (k+1) (by omega) (by omega) ?_
  refine zAf ?_ ?_ ?_<;>simp only [push_cast,seval,reduceCtorEq,cI]
  rw [hs]
  exact (Int.natCast_add _ _).symm
 ·obtain rfl:k=l.length:=by omega
  have h1:=hle _ hk
  have h2:0<(catK l l.length).length:=by rw [hall]; exact hpos
  repeat' (first|((refine zUy hE hP 1 (by omega) rfl rfl ?_; simp only [ao,List.length_nil,Nat.reduceAdd,Nat.reduceSub,ak,List.take_zero,al,ar]; simp +contextual only [hnl,↓kA,push_cast,seval,reduceCtorEq,cI]))|first|(refine goK (by assumption) ?_; iterate 4 (try clear hK K))|(refine zAb fun K hK=>?_)|((first|refine zAa hE rfl ?_|refine zAi ?_); simp +contextual only [hnl,↓kA,push_cast,seval,reduceCtorEq,cI])|refine zAc ?_|((first|refine zAg ?_|refine zAj ?_); simp only [thenQ,zAh,if_true,if_false,Nat.reduceEqDiff,reduceCtorEq])|(refine zAe (by rfl) (fun hb=>?_) (fun hb=>?_)<;>(try simp only [bq,reduceCtorEq] at hb)<;>(try omega))|refine zAF (by rfl) ?_ ?_|refine andS ?_|(refine ⟨fun hc=>?_,fun hc=>?_⟩)|(intro hc; try omega))
  refine ⟨_,rfl,by omega,by omega,?_⟩
  repeat' (first|(refine goK (by assumption) ?_; iterate 4 (try clear hK K))|(refine zAb fun K hK=>?_)|((first|refine zAa hE rfl ?_|refine zAi ?_); simp +contextual only [hnl,↓kA,push_cast,seval,reduceCtorEq,cI])|refine zAc ?_|((first|refine zAg ?_|refine zAj ?_); simp only [thenQ,zAh,if_true,if_false,Nat.reduceEqDiff,reduceCtorEq])|(refine zAe (by rfl) (fun hb=>?_) (fun hb=>?_)<;>(try simp only [bq,reduceCtorEq] at hb)<;>(try omega))|refine zAF (by rfl) ?_ ?_|refine andS ?_|(refine ⟨fun hc=>?_,fun hc=>?_⟩)|(intro hc; try omega))
  refine zAk (fun k:Nat=>AS.of [(2,.one .nils),(6,.one (.ref 24)),(25,.one (.val (.sl (.sl .int)) l)),(26,.I l.length),(27,.I k)] [(24,.flat 3 .int (catK l k))] []) (fun k=>k<=l.length) (fun k=>l.length - k) 0 (aq _) ?_ ?_
  ·refine zAf ?_ ?_ ?_<;>simp only [push_cast,seval,reduceCtorEq,cI]
   exact .inl rfl
  intro k hk2 K2 hL2
  rcases ai k l.length with hkl|hkl
  ·have hs:=zJE hkl
   have h3:=hle k hk2
   have h4:=hpre.row k hkl
   repeat' (first|(refine goK (by assumption) ?_; iterate 4 (try clear hK K))|(refine zAb fun K hK=>?_)|((first|refine zAa hE rfl ?_|refine zAi ?_); simp +contextual only [hnl,↓kA,push_cast,seval,reduceCtorEq,cI])|refine zAc ?_|((first|refine zAg ?_|refine zAj ?_); simp only [thenQ,zAh,if_true,if_false,Nat.reduceEqDiff,reduceCtorEq])|(refine zAe (by rfl) (fun hb=>?_) (fun hb=>?_)<;>(try simp only [bq,reduceCtorEq] at hb)<;>(try omega))|refine zAF (by rfl) ?_ ?_|refine andS ?_|(refine ⟨fun hc=>?_,fun hc=>?_⟩)|(intro hc; try omega))
   rw [<-hs]
   refine hL2 _ (k+1) (by omega) (by omega) ?_
   refine zAf ?_ ?_ ?_<;>simp only [push_cast,seval,reduceCtorEq,cI]
   done
  ·obtain rfl:k=l.length:=by omega
   repeat' (first|(refine goK (by assumption) ?_; iterate 4 (try clear hK K))|(refine zAb fun K hK=>?_)|((first|refine zAa hE rfl ?_|refine zAi ?_); simp +contextual only [hnl,↓kA,push_cast,seval,reduceCtorEq,cI])|refine zAc ?_|((first|refine zAg ?_|refine zAj ?_); simp only [thenQ,zAh,if_true,if_false,Nat.reduceEqDiff,reduceCtorEq])|(refine zAe (by rfl) (fun hb=>?_) (fun hb=>?_)<;>(try simp only [bq,reduceCtorEq] at hb)<;>(try omega))|refine zAF (by rfl) ?_ ?_|refine andS ?_|(refine ⟨fun hc=>?_,fun hc=>?_⟩)|(intro hc; try omega))
   rw [hall]
end Go.Proofs.YtekfodeknpnkbaaGreatDoor
