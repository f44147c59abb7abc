import Derived.Test.YtekfodeknpnkbaaGreatDoorJ7
import Derived.Tactics2
import Derived.Laws.CopyOwn
import Derived.Laws.Bits64b
import Derived.WalkKit
set_option linter.unusedSimpArgs false
set_option linter.unusedVariables false
namespace Go.Proofs.YtekfodeknpnkbaaGreatDoor
open Go.RowKit Go.VS
def tbl {α:Type} (n:Nat) (f:Nat->α):List α:=(List.range n).map f
theorem zAY {α:Type} (n:Nat) (f:Nat->α):(tbl n f).length=n:=by simp [tbl]
theorem zBw {α:Type} {n i:Nat} (f:Nat->α) (d:α) (h:i<n):(tbl n f).getD i d=f i:=by simp [tbl,ab,h]
theorem zAE {α:Type} {n:Nat} {f g:Nat->α} (h:∀ i,i<n->f i=g i):tbl n f=tbl n g:=cj fun i hi=>h i (bR.1 hi)
theorem zEb {α:Type} (n:Nat) (f:Nat->α):tbl (n+1) f=tbl n f++[f n]:=by simp [tbl,cT]
theorem zHf {α:Type} (f:Nat->α):tbl 0 f=[]:=rfl
theorem zEF {α:Type} {n i:Nat} (f:Nat->α) (v:α):(tbl n f).set i v=tbl n (fun j=>if j=i then v else f j):=by
 apply List.ext_getElem?
 intro j
 rw [cn]
 simp only [tbl,bp,List.length_range,bc]
 by_cases hj:j<n
 ·by_cases h:i=j
  ·subst h; simp [hj]
  ·have h':¬j=i:=fun e=>h e.symm
   simp [h,h',hj]
 ·have:(List.range n)[j]?=none:=by simp; omega
  by_cases h:i=j
  ·subst h; simp [hj]
  ·simp [h,hj]
theorem zF7 {α:Type} (n:Nat) (v:α):tbl n (fun _=>v)=List.replicate n v:=by simp [tbl,List.map_const']
theorem zJY {α:Type} (l:List α) (d:α):l=tbl l.length (fun i=>l.getD i d):=by
 apply List.ext_getElem (by simp [tbl])
 intro i h1 h2
 simp [tbl,ab,h1]
theorem zV0 {α β:Type} (l:List α) (d:α) (g:α->β):l.map g=tbl l.length (fun i=>g (l.getD i d)):=by
 conv=>lhs; rw [zJY l d]
 simp [tbl]
def rowsP (p:List (List Int)):List Int:=p.map lsum
def colP (p:List (List Int)) (c:Nat):Int:=lsum (p.map fun r=>r.getD c 0)
def colsP (p:List (List Int)):List Int:=tbl (wid p) (colP p)
theorem zQJ {p:List (List Int)} {i:Nat} (h:i<p.length) (c:Nat):colP (p.take (i+1)) c=colP (p.take i) c+(p.getD i []).getD c 0:=by
 unfold colP
 rw [List.map_take,List.map_take,zBR _ _ (by simpa using h)]
 congr 1
 simp [ab,h]
theorem InPlan.sumR {p:List (List Int)} (h:InPlan p) {i:Nat} (hi:i<p.length) (j:Nat):0<=lsum ((p.getD i []).take j)/\lsum ((p.getD i []).take j)<=750:=by
 have h1:=zDL 150 (by omega) ((p.getD i []).take j) (fun x hx=>h.mem _ (zA0 [] hi) x (bV hx))
 have h2:=h.row hi
 have h3:=h.cols
 have h4:((p.getD i []).take j).length<=5:=by rw [aU]; omega
 omega
theorem InPlan.sumC {p:List (List Int)} (h:InPlan p) {c:Nat} (hc:c<wid p) (i:Nat):0<=colP (p.take i) c/\colP (p.take i) c<=750:=by
 unfold colP
 have h1:=zDL 150 (by omega) ((p.take i).map fun r=>r.getD c 0) (fun x hx=>by
  obtain ⟨r,hr,rfl⟩:=aM.1 hx
  have hr':=bV hr
  exact h.mem r hr' _ (zA0 0 (by rw [h.len r hr']; exact hc)))
 have h3:=h.rows
 have h4:((p.take i).map fun r=>r.getD c 0).length<=5:=by rw [bp,aU]; omega
 omega
@[push_cast] def zVs:Con:=⟨[.dat (.sl (.sl .int))],fun (x:List (List Int)×Unit)=>InPlan x.1,fun (x:List (List Int)×Unit)=>{res:=[.own (.flat 3 .int (rowsP x.1)),.own (.flat 3 .int (colsP x.1))]}⟩
theorem zQY:FnSpec Tryz.prog 90 zVs:=by
 refine FnSpec.of_tri' (E:=know [] [] [] [12,17]) (zAl all_nil all_nil all_nil) Tryz.func90 rfl rfl kr ?_
 intro C x hE hnl hfit hpre
 simp only [Tryz.ntmps90,Tryz.results90,maxLen,seval,push_cast] at hnl hfit hpre ⊢
 obtain ⟨(p:List (List Int)),_⟩:=x
 dsimp only at hfit hpre ⊢
 have hr:=hpre.rows
 have hc:=hpre.cols
 have hw:(p.getD 0 []).length=wid p:=rfl
 repeat' (first|(refine goK (by assumption) ?_; iterate 4 (try clear hK K))|(refine zAb fun K hK=>?_)|((first|refine zAa hE rfl ?_|((first|refine zAd hE 1 rfl rfl kr ?_|refine zAd hE 2 rfl rfl kr ?_|refine zAd hE 3 rfl rfl kr ?_|refine zAd hE 4 rfl rfl kr ?_); simp only [ao,List.length_nil,Nat.reduceAdd,Nat.reduceSub,ak,List.take_zero,al,ar])); simp +contextual only [hnl,↓kA,push_cast,seval,reduceCtorEq,cI])|refine zAc ?_|refine andS ?_|fail)
 refine zCH 4 12 12 (by simp only [push_cast,seval,reduceCtorEq,cI]; rfl) (by omega) ?_
 refine zCH 5 17 17 (by simp only [push_cast,seval,reduceCtorEq,cI]; rfl) (by omega) ?_
 refine zAk (fun i:Nat=>AS.of [(4,.one (.ref 12)),(5,.one (.ref 17)),(18,.one (.val (.sl (.sl .int)) p)),(19,.I p.length),(20,.I i)]
  [(12,.flat 3 .int (tbl p.length fun r=>if r<i then lsum (p.getD r []) else 0)),(17,.flat 3 .int (tbl (wid p) fun c=>colP (p.take i) c))] []) (fun i=>i<=p.length) (fun i=>p.length - i) 0 (aq _) ?_ ?_
 ·refine zAf ?_ ?_ ?_<;>simp only [push_cast,seval,reduceCtorEq,cI]
  refine ⟨.inl (congrArg _ ?_),.inl (congrArg _ ?_)⟩
  ·rw [<-zF7]
   exact zAE fun r _=>by rw [ae (bE r)]
  ·rw [<-zF7]
   exact zAE fun c _=>by simp [colP,lsum]
 intro i hi K' hL
 repeat' (first|(refine goK (by assumption) ?_; iterate 4 (try clear hK K))|(refine zAb fun K hK=>?_)|((first|refine zAa hE rfl ?_|refine zAi ?_); simp +contextual only [hnl,↓kA,push_cast,seval,reduceCtorEq,cI])|refine zAc ?_|((first|refine zAg ?_|refine zAj ?_); simp only [thenQ,zAh,if_true,if_false,Nat.reduceEqDiff,reduceCtorEq])|(refine zAe (by rfl) (fun hb=>?_) (fun hb=>?_)<;>(try simp only [bq,reduceCtorEq] at hb)<;>(try omega))|refine andS ?_|fail)
 ·have hi':i<p.length:=by omega
  have hwi:=hpre.row hi'
  refine zAk (fun j:Nat=>AS.of [(4,.one (.ref 12)),(5,.one (.ref 17)),(6,.I i),(18,.one (.val (.sl (.sl .int)) p)),(19,.I p.length),(20,.I i),(25,.one (.val (.sl .int) (p.getD i []))),(26,.I (p.getD i []).length),(27,.I j)]
   [(12,.flat 3 .int (tbl p.length fun r=>if r<i then lsum (p.getD r []) else if r=i then lsum ((p.getD i []).take j) else 0)),(17,.flat 3 .int (tbl (wid p) fun c=>colP (p.take i) c+if c<j then (p.getD i []).getD c 0 else 0))] [])
   (fun j=>j<=wid p) (fun j=>wid p - j) 0 (aq _) ?_ ?_
  ·refine zAf ?_ ?_ ?_<;>simp only [push_cast,seval,reduceCtorEq,cI]
   refine ⟨.inl (congrArg _ (zAE fun r _=>?_)),.inl (congrArg _ (zAE fun c _=>?_))⟩
   ·simp only [lsum,ite_self]
   ·rw [ae (bE c),cZ]
  intro j hj K2 hL2
  have e1:(tbl p.length fun r=>if r<i then lsum (p.getD r []) else if r=i then lsum ((p.getD i []).take j) else 0).getD i 0=lsum ((p.getD i []).take j):=by
   rw [zBw _ _ hi',ae (aZ _),ah rfl]
  have e2:j<wid p->(tbl (wid p) fun c=>colP (p.take i) c+if c<j then (p.getD i []).getD c 0 else 0).getD j 0=colP (p.take i) j:=fun hj'=>by
   rw [zBw _ _ hj',ae (aZ _),cZ]
  have s1:=hpre.sumR hi' j
  replace hnl:=aa hnl (aa e1 (aa (zAY p.length fun r=>if r<i then lsum (p.getD r []) else if r=i then lsum ((p.getD i []).take j) else 0) (zAY (wid p) fun c=>colP (p.take i) c+if c<j then (p.getD i []).getD c 0 else 0)))
  repeat' (first|(refine goK (by assumption) ?_; iterate 4 (try clear hK K))|(refine zAb fun K hK=>?_)|(refine zAa hE rfl ?_; simp +contextual only [hnl,↓kA,push_cast,seval,reduceCtorEq,cI])|refine zAc ?_|((first|refine zAg ?_|refine zAj ?_); simp only [thenQ,zAh,if_true,if_false,Nat.reduceEqDiff,reduceCtorEq])|(refine zAe (by rfl) (fun hb=>?_) (fun hb=>?_)<;>(try simp only [bq,reduceCtorEq] at hb)<;>(try omega))|refine andS ?_|fail)
  ·have hj':j<wid p:=by omega
   have s2:=hpre.at hi' hj'
   have s3:=hpre.sumC hj' i
   have s4:InR ((tbl (wid p) fun c=>colP (p.take i) c+if c<j then (p.getD i []).getD c 0 else 0).getD j 0+(p.getD i []).getD j 0):=by
    rw [e2 hj']
    unfold InR
    omega
   refine ⟨by unfold InR; omega,?_⟩
   repeat' (first|(refine goK (by assumption) ?_; iterate 4 (try clear hK K))|(refine zAa hE rfl ?_; simp +contextual only [hnl,↓kA,push_cast,seval,reduceCtorEq,cI])|refine andS ?_|fail)
   refine hL2 _ (j+1) (by omega) (by omega) ?_
   refine zAf ?_ ?_ ?_<;>simp only [push_cast,seval,reduceCtorEq,cI]
   rw [e2 hj',zEF,zEF]
   refine ⟨.inl (congrArg _ (zAE fun r _=>?_)),.inl (congrArg _ (zAE fun c _=>?_))⟩
   ·by_cases h:r=i
    ·subst h
     rw [ah rfl,ae (aZ _),ah rfl,zBR _ _ (by omega)]
    ·rw [ae h,ae h,ae h]
   ·by_cases h:c=j
    ·subst h
     rw [ah rfl,ah (bT _)]
    ·rw [ae h]
     by_cases h2:c<j
     ·rw [ah h2,ah (by omega)]
     ·rw [ae h2,ae (by omega)]
  ·have hjw:j=wid p:=by omega
   refine hL _ (i+1) (by omega) (by omega) ?_
   refine zAf ?_ ?_ ?_<;>simp only [push_cast,seval,reduceCtorEq,cI]
   refine ⟨.inl (congrArg _ (zAE fun r _=>?_)),.inl (congrArg _ (zAE fun c hc=>?_))⟩
   ·by_cases h:r=i
    ·subst h
     rw [ae (aZ _),ah rfl,ah (bT _),aS (by omega)]
    ·rw [ae h]
     by_cases h2:r<i
     ·rw [ah h2,ah (by omega)]
     ·rw [ae h2,ae (by omega)]
   ·rw [ah (by omega),zQJ hi']
 ·obtain rfl:i=p.length:=by omega
  refine ⟨congrArg _ ?_,congrArg _ ?_⟩
  ·rw [rowsP,zV0 p []]
   exact zAE fun r hr=>ah hr
  ·rw [aS (ap _)]
   rfl
@[push_cast] def zTg:Con:=⟨[.dat (.sl .int),.dat (.sl .int)],fun _=>True,fun (x:List Int×List Int×Unit)=>{res:=[.val .bool (decide (x.1=x.2.1))]}⟩
theorem zOT:FnSpec Tryz.prog 83 zTg:=by
 refine FnSpec.of_tri' (E:=know [] [] [] []) (zAl all_nil all_nil all_nil) Tryz.func83 rfl rfl kr ?_
 intro C x hE hnl hfit hpre
 simp only [Tryz.ntmps83,Tryz.results83,maxLen,seval,push_cast] at hnl hfit hpre ⊢
 obtain ⟨(a:List Int),(b:List Int),_⟩:=x
 dsimp only at hfit hpre ⊢
 repeat' (first|(refine goK (by assumption) ?_; iterate 4 (try clear hK K))|(refine zAb fun K hK=>?_)|((first|refine zAa hE rfl ?_|refine zAi ?_); simp +contextual only [hnl,↓kA,push_cast,seval,reduceCtorEq,cI])|refine zAc ?_|(refine zAg ?_; simp only [thenQ,zAh,if_true,if_false,Nat.reduceEqDiff,reduceCtorEq])|(refine zAe (by rfl) (fun hb=>?_) (fun hb=>?_)<;>(try simp only [bq,reduceCtorEq] at hb)<;>(try omega))|fail)
 ·exact (aF fun e=>hb (by rw [e])).symm
 have hlen:=hb; clear hb
 refine zAk (fun k:Nat=>AS.of [(0,.one (.val (.sl .int) a)),(1,.one (.val (.sl .int) b)),(12,.I a.length),(13,.I k)] [] []) (fun k=>k<=a.length/\∀ j,j<k->a.getD j 0=b.getD j 0) (fun k=>a.length - k) 0 ⟨aq _,by omega⟩ ?_ ?_
 ·refine zAf ?_ ?_ ?_<;>simp only [push_cast,seval,reduceCtorEq,cI]
 intro k ⟨hk,hj⟩ K' hL
 repeat' (first|(refine goK (by assumption) ?_; iterate 4 (try clear hK K))|(refine zAb fun K hK=>?_)|((first|refine zAa hE rfl ?_|refine zAi ?_|((first|refine zAd hE 1 rfl rfl kr ?_|refine zAd hE 2 rfl rfl kr ?_|refine zAd hE 3 rfl rfl kr ?_|refine zAd hE 4 rfl rfl kr ?_); simp only [ao,List.length_nil,Nat.reduceAdd,Nat.reduceSub,ak,List.take_zero,al,ar])); simp +contextual only [hnl,↓kA,push_cast,seval,reduceCtorEq,cI])|refine zAc ?_|((first|refine zAg ?_|refine zAj ?_); simp only [thenQ,zAh,if_true,if_false,Nat.reduceEqDiff,reduceCtorEq])|(refine zAe (by rfl) (fun hb=>?_) (fun hb=>?_)<;>(try simp only [bq,reduceCtorEq] at hb)<;>(try omega))|refine andS ?_|fail)
 ·exact (aF (zIY 0 hb)).symm
 ·refine hL _ (k+1) ⟨by omega,fun j hj'=>?_⟩ (by omega) ?_
  ·rcases ai j k with h3|h3
   ·exact hj j h3
   ·have:j=k:=by omega
    subst this
    exact hb
  refine zAf ?_ ?_ ?_<;>simp only [push_cast,seval,reduceCtorEq,cI]
 ·exact (aD (zIE 0 (by omega) fun j hj'=>hj j (by omega))).symm
def flipP (p:List (List Int)):List (List Int):=tbl (wid p) (fun c=>tbl p.length fun i=>(p.getD i []).getD c 0)
@[push_cast] def zVx:Con:=⟨[.dat (.sl (.sl .int))],fun (x:List (List Int)×Unit)=>InPlan x.1,fun (x:List (List Int)×Unit)=>{res:=[.own (.deep 38 3 .int (flipP x.1))]}⟩
theorem zNl:FnSpec Tryz.prog 169 zVx:=by
 refine FnSpec.of_tri' (E:=know [] [] [] []) (zAl all_nil all_nil all_nil) Tryz.func169 rfl rfl kr ?_
 intro C x hE hnl hfit hpre
 simp only [Tryz.ntmps169,Tryz.results169,maxLen,seval,push_cast] at hnl hfit hpre ⊢
 obtain ⟨(p:List (List Int)),_⟩:=x
 dsimp only at hfit hpre ⊢
 have hr:=hpre.rows
 have hc:=hpre.cols
 have hw:(p.getD 0 []).length=wid p:=rfl
 repeat' (first|(refine goK (by assumption) ?_; iterate 4 (try clear hK K))|(refine zAb fun K hK=>?_)|(refine zAa hE rfl ?_; simp +contextual only [hnl,↓kA,push_cast,seval,reduceCtorEq,cI])|refine zAc ?_|fail)
 refine zAk (fun c:Nat=>AS.of [(0,.one (.val (.sl (.sl .int)) p)),(3,.one (.ref 34)),(4,.I c)] [(34,.deep 38 3 .int (tbl c fun c=>tbl p.length fun i=>(p.getD i []).getD c 0))] []) (fun c=>c<=wid p) (fun c=>wid p - c) 0 (aq _) ?_ ?_
 ·refine zAf ?_ ?_ ?_<;>simp only [push_cast,seval,reduceCtorEq,cI]
  exact ⟨by omega,zHf _⟩
 intro c hc K' hL
 replace hnl:=aa hnl (zAY c fun c=>tbl p.length fun i=>(p.getD i []).getD c 0)
 repeat' (first|(refine goK (by assumption) ?_; iterate 4 (try clear hK K))|(refine zAb fun K hK=>?_)|((first|refine zAa hE rfl ?_|refine zAi ?_); simp +contextual only [hnl,↓kA,push_cast,seval,reduceCtorEq,cI])|refine zAc ?_|((first|refine zAg ?_|refine zAj ?_); simp only [thenQ,zAh,if_true,if_false,Nat.reduceEqDiff,reduceCtorEq])|(refine zAe (by rfl) (fun hb=>?_) (fun hb=>?_)<;>(try simp only [bq,reduceCtorEq] at hb)<;>(try omega))|refine andS ?_|fail)
 ·have hc':c<wid p:=by omega
  refine zAk (fun i:Nat=>AS.of [(0,.one (.val (.sl (.sl .int)) p)),(3,.one (.ref 34)),(4,.I c),(5,.one (.ref 30)),(6,.I i)] [(34,.deep 38 3 .int (tbl c fun c=>tbl p.length fun i=>(p.getD i []).getD c 0)),(30,.flat 3 .int (tbl i fun i=>(p.getD i []).getD c 0))] []) (fun i=>i<=p.length) (fun i=>p.length - i) 0 (aq _) ?_ ?_
  ·refine zAf ?_ ?_ ?_<;>simp only [push_cast,seval,reduceCtorEq,cI]
   exact ⟨by omega,zHf _⟩
  intro i hi K2 hL2
  replace hnl:=aa hnl (zAY i fun i=>(p.getD i []).getD c 0)
  have hwi:i<p.length->(p.getD i []).length=wid p:=hpre.row
  repeat' (first|(refine goK (by assumption) ?_; iterate 4 (try clear hK K))|(refine zAb fun K hK=>?_)|(refine zAa hE rfl ?_; simp +contextual only [hnl,↓kA,push_cast,seval,reduceCtorEq,cI])|refine zAc ?_|((first|refine zAg ?_|refine zAj ?_); simp only [thenQ,zAh,if_true,if_false,Nat.reduceEqDiff,reduceCtorEq])|(refine zAe (by rfl) (fun hb=>?_) (fun hb=>?_)<;>(try simp only [bq,reduceCtorEq] at hb)<;>(try omega))|refine andS ?_|fail)
  ·have hwi':=hwi (by omega)
   repeat' (first|(refine goK (by assumption) ?_; iterate 4 (try clear hK K))|(refine zAb fun K hK=>?_)|((first|refine zAa hE rfl ?_|refine zAi ?_); simp +contextual only [hnl,↓kA,push_cast,seval,reduceCtorEq,cI])|refine zAc ?_|((first|refine zAg ?_|refine zAj ?_); simp only [thenQ,zAh,if_true,if_false,Nat.reduceEqDiff,reduceCtorEq])|(refine zAe (by rfl) (fun hb=>?_) (fun hb=>?_)<;>(try simp only [bq,reduceCtorEq] at hb)<;>(try omega))|refine zAF (by rfl) ?_ ?_|refine andS ?_|(refine ⟨fun hc=>?_,fun hc=>?_⟩)|(intro hc; try omega))
   refine hL2 _ (i+1) (by omega) (by omega) ?_
   refine zAf ?_ ?_ ?_<;>simp only [push_cast,seval,reduceCtorEq,cI]
   left
   rw [zEb]
  ·obtain rfl:i=p.length:=by omega
   refine hL _ (c+1) (by omega) (by omega) ?_
   refine zAf ?_ ?_ ?_<;>simp only [push_cast,seval,reduceCtorEq,cI]
   left
   rw [zEb]
 ·obtain rfl:c=wid p:=by omega
  rfl
end Go.Proofs.YtekfodeknpnkbaaGreatDoor
namespace Go.Proofs.YtekfodeknpnkbaaGreatDoor
open Go.RowKit Go.VS
theorem zRb {n lo hi:Int} {l:List Int} (h:InL n lo hi l):∀ j,j<l.length->lo<=l.getD j 0/\l.getD j 0<=hi:=fun j hj=>h.2 _ (zA0 0 hj)
section
variable {c:List (List Int)} {ps:List Int}
theorem zJO (c:List (List Int)):(flipP c).length=wid c:=zAY _ _
end
end Go.Proofs.YtekfodeknpnkbaaGreatDoor
namespace Go.Proofs.YtekfodeknpnkbaaGreatDoor
open Go.RowKit Go.VS
@[push_cast] def zSe:Con:=⟨[.dat (.sl .int),.dat .int],fun _=>True,fun (x:List Int×Int×Unit)=>{res:=[.val .bool (decide (InL x.2.1 (-1000) 1000 x.1))]}⟩
theorem zMU:FnSpec Tryz.prog 170 zSe:=by
 refine FnSpec.of_tri' (E:=know _ [] [] []) (zAl (kc zGP all_nil) all_nil all_nil) Tryz.func170 rfl rfl kr ?_
 intro C x hE hnl hfit hpre
 simp only [Tryz.ntmps170,Tryz.results170,maxLen,seval,push_cast] at hnl hfit hpre ⊢
 obtain ⟨(l:List Int),(n:Int),_⟩:=x
 dsimp only at hfit hpre ⊢
 repeat' (first|(refine goK (by assumption) ?_; iterate 4 (try clear hK K))|(refine zAb fun K hK=>?_)|((first|refine zAa hE rfl ?_|refine zAi ?_); simp +contextual only [hnl,↓kA,push_cast,seval,reduceCtorEq,cI])|refine zAc ?_|(refine zAg ?_; simp only [thenQ,zAh,if_true,if_false,Nat.reduceEqDiff,reduceCtorEq])|(refine zAe (by rfl) (fun hb=>?_) (fun hb=>?_)<;>(try simp only [bq,reduceCtorEq] at hb)<;>(try omega))|fail)
 ·exact (aF fun h=>by have:=h.1; omega).symm
 ·refine zAk (fun k:Nat=>AS.of [(0,.one (.val (.sl .int) l)),(1,.I n),(5,.I k)] [] []) (fun k=>k<=l.length/\∀ j,j<k -> -1000<=l.getD j 0/\l.getD j 0<=1000) (fun k=>l.length - k) 0 ⟨aq _,by omega⟩ ?_ ?_
  ·refine zAf ?_ ?_ ?_<;>simp only [push_cast,seval,reduceCtorEq,cI]
  intro k ⟨hk,hall⟩ K' hL
  repeat' (first|(refine goK (by assumption) ?_; iterate 4 (try clear hK K))|(refine zAb fun K hK=>?_)|((first|refine zAa hE rfl ?_|refine zAi ?_); simp +contextual only [hnl,↓kA,push_cast,seval,reduceCtorEq,cI])|refine zAc ?_|((first|refine zAg ?_|refine zAj ?_); simp only [thenQ,zAh,if_true,if_false,Nat.reduceEqDiff,reduceCtorEq])|(refine zAe (by rfl) (fun hb=>?_) (fun hb=>?_)<;>(try simp only [bq,reduceCtorEq] at hb)<;>(try omega))|refine andS ?_|fail)
  ·exact (aF fun h=>hb (zRb h k (by omega))).symm
  ·refine hL _ (k+1) ⟨by omega,fun j hj=>?_⟩ (by omega) ?_
   ·rcases ai j k with h3|h3
    ·exact hall j h3
    ·obtain rfl:j=k:=by omega
     exact hb
   refine zAf ?_ ?_ ?_<;>simp only [push_cast,seval,reduceCtorEq,cI]
  ·refine (aD ⟨by omega,fun x hx=>?_⟩).symm
   obtain ⟨i,h1,rfl⟩:=aN hx
   have:=hall i (by omega)
   rwa [ab,aj h1] at this
end Go.Proofs.YtekfodeknpnkbaaGreatDoor
namespace Go.Proofs.YtekfodeknpnkbaaGreatDoor
open Go.RowKit Go.VS
abbrev Pr:=Int×Int
def toP (l:List Pr) (i:Nat):Pr:=l.getD i (0,0)
end Go.Proofs.YtekfodeknpnkbaaGreatDoor
namespace Go.Proofs.YtekfodeknpnkbaaGreatDoor
open Go.RowKit Go.VS
structure InT (c:List (List Int)) (x:Pr):Prop where
 r0:0<=x.1
 r1:x.1<c.length
 c0:0<=x.2
 c1:x.2<wid c
theorem inT_iff {c:List (List Int)} {x:Pr}:InT c x↔(0<=x.1/\x.1<c.length/\0<=x.2/\x.2<wid c):=⟨fun ⟨a,b,c,d⟩=>⟨a,b,c,d⟩,fun ⟨a,b,c,d⟩=>⟨a,b,c,d⟩⟩
instance (c:List (List Int)) (x:Pr):Decidable (InT c x):=decidable_of_iff _ inT_iff.symm
def lexLt (x y:Pr):Prop:=x.1<y.1\/x.1=y.1/\x.2<y.2
instance (x y:Pr):Decidable (lexLt x y):=by unfold lexLt; infer_instance
structure Lnk (c:List (List Int)) (l:List Pr):Prop where
 at':∀ i,i<l.length->InT c (toP l i)
 inc:∀ i,i+1<l.length->lexLt (toP l i) (toP l (i+1))
theorem lnk_iff {c:List (List Int)} {l:List Pr}:Lnk c l↔((∀ i,i<l.length->InT c (toP l i))/\∀ i,i<l.length - 1->lexLt (toP l i) (toP l (i+1))) :=
 ⟨fun ⟨a,b⟩=>⟨a,fun i hi=>b i (by omega)⟩,fun ⟨a,b⟩=>⟨a,fun i hi=>b i (by omega)⟩⟩
instance (c:List (List Int)) (l:List Pr):Decidable (Lnk c l):=decidable_of_iff _ lnk_iff.symm
structure LnkK (c:List (List Int)) (l:List Pr) (k:Nat):Prop where
 at':∀ i,i<k->InT c (toP l i)
 inc:∀ i,i+1<k->lexLt (toP l i) (toP l (i+1))
theorem LnkK.all {c:List (List Int)} {l:List Pr} (h:LnkK c l l.length):Lnk c l:=⟨h.at',h.inc⟩
theorem LnkK.step {c:List (List Int)} {l:List Pr} {k:Nat} (h:LnkK c l k) (h1:InT c (toP l k)) (h2:0<k->lexLt (toP l (k - 1)) (toP l k)):LnkK c l (k+1):=by
 refine ⟨fun i hi=>?_,fun i hi=>?_⟩
 ·rcases ai i k with h3|h3
  ·exact h.at' i h3
  ·obtain rfl:i=k:=by omega
   exact h1
 ·rcases ai (i+1) k with h3|h3
  ·exact h.inc i h3
  ·obtain rfl:k=i+1:=by omega
   exact h2 (by omega)
end Go.Proofs.YtekfodeknpnkbaaGreatDoor
namespace Go.Proofs.YtekfodeknpnkbaaGreatDoor
open Go.RowKit Go.VS
end Go.Proofs.YtekfodeknpnkbaaGreatDoor
namespace Go.Proofs.YtekfodeknpnkbaaGreatDoor
open Go.RowKit Go.VS
section
variable {c:List (List Int)} {l r:List Pr}
end
end Go.Proofs.YtekfodeknpnkbaaGreatDoor
namespace Go.Proofs.YtekfodeknpnkbaaGreatDoor
open Go.RowKit Go.VS
theorem zI2 {a:List Int} (h:zBL a=true):(1<=a.length/\a.length<=6)/\Go.OT.Bnd 0 200 a :=
 ⟨by have:=zI3 h; omega,fun x hx=>by have:=zGn h x hx; omega⟩
theorem ForOK.mc {a b:List Int} {c:List (List Int)} (h:ForOK a b c):Go.OT.MC a b c:=by
 have h1:=zI2 h.ha
 have h2:=zI2 h.hb
 have h3:=h.hc.tb (lo':=0) (hi':=99) (by omega) (by omega)
 rw [h.rows,h.cols] at h3
 exact ⟨h1.1,h2.1,h1.2,h2.2,h3⟩
def zN9 (a b:List Int) (c:List (List Int)):Int:=if zEr a b c=0 then spend c (Go.OT.cheapV a b c) else 0
theorem zTB {a b:List Int} {c:List (List Int)} (h:zEr a b c=0):zN9 a b c=spend c (Go.OT.cheapV a b c):=ah h
end Go.Proofs.YtekfodeknpnkbaaGreatDoor
namespace Go.Proofs.YtekfodeknpnkbaaGreatDoor
open Go.RowKit Go.VS
def ArePr (c:List (List Int)) (p:zBp):Prop:=InL c.length (-1000) 1000 p.1/\InL (wid c) (-1000) 1000 p.2
instance (c:List (List Int)) (p:zBp):Decidable (ArePr c p):=by unfold ArePr; infer_instance
def HoldP (c:List (List Int)) (p:zBp):Prop:=∀ i,i<c.length->∀ j,j<wid c->p.1.getD i 0+p.2.getD j 0<=(c.getD i []).getD j 0
instance (c:List (List Int)) (p:zBp):Decidable (HoldP c p):=by unfold HoldP; infer_instance
def errPr (c:List (List Int)) (p:zBp):Int:=if InTab 0 99 c/\ArePr c p then if HoldP c p then 0 else 7 else 1
section
variable {c:List (List Int)} {p:zBp}
theorem zMv (h:¬(InTab 0 99 c/\ArePr c p)):errPr c p=1:=ae h
theorem zQ0 (h:InTab 0 99 c) (h2:ArePr c p) (h3:¬HoldP c p):errPr c p=7:=by rw [errPr,ah ⟨h,h2⟩,ae h3]
theorem zMu (h:InTab 0 99 c) (h2:ArePr c p) (h3:HoldP c p):errPr c p=0:=by rw [errPr,ah ⟨h,h2⟩,ah h3]
theorem zNY (h:errPr c p=0):InTab 0 99 c/\ArePr c p/\HoldP c p:=by
 unfold errPr at h
 split at h
 ·split at h
  ·rename_i h1 h2; exact ⟨h1.1,h1.2,h2⟩
  ·omega
 ·omega
theorem ArePr.row (h:ArePr c p):p.1.length=c.length/\∀ i,i<p.1.length -> -1000<=p.1.getD i 0/\p.1.getD i 0<=1000:=⟨by have:=h.1.1; omega,zRb h.1⟩
theorem ArePr.col (h:ArePr c p):p.2.length=wid c/\∀ i,i<p.2.length -> -1000<=p.2.getD i 0/\p.2.getD i 0<=1000:=⟨by have:=h.2.1; omega,zRb h.2⟩
end
@[push_cast] def zNB:Con:=⟨[.dat (.sl (.sl .int)),.dat (.prod (.sl .int) (.sl .int))],fun (x:List (List Int)×zBp×Unit)=>InTab 0 99 x.1,fun (x:List (List Int)×zBp×Unit)=>{res:=[.val .bool (decide (ArePr x.1 x.2.1))]}⟩
@[push_cast] def zVK:Con:=⟨[.dat (.sl (.sl .int)),.dat (.prod (.sl .int) (.sl .int))],fun (x:List (List Int)×zBp×Unit)=>InTab 0 99 x.1/\ArePr x.1 x.2.1,fun (x:List (List Int)×zBp×Unit)=>{res:=[.val .bool (decide (HoldP x.1 x.2.1))]}⟩
@[push_cast] def prCon:Con:=⟨[.dat (.sl (.sl .int)),.dat (.prod (.sl .int) (.sl .int))],fun _=>True,fun (x:List (List Int)×zBp×Unit)=>{res:=[.val .int (errPr x.1 x.2.1)]}⟩
theorem zR6:FnSpec Tryz.prog 204 zNB:=by
 refine FnSpec.of_tri' (E:=know _ [] [] []) (zAl (kc zNz all_nil) all_nil all_nil) Tryz.func204 rfl rfl kr ?_
 intro C x hE hnl hfit hpre
 simp only [Tryz.ntmps204,Tryz.results204,maxLen,seval,push_cast] at hnl hfit hpre ⊢
 obtain ⟨(c:List (List Int)),⟨(u:List Int),(v:List Int)⟩,_⟩:=x
 dsimp only at hfit hpre ⊢
 have hw:(c.getD 0 []).length=wid c:=rfl
 have hr:=hpre.rows
 replace hnl:=aa hnl hw
 by_cases h1:InL c.length (-1000) 1000 u
 ·by_cases h2:InL (wid c) (-1000) 1000 v
  ·have e:ArePr c (u,v):=⟨h1,h2⟩
   replace hnl:=aa hnl (aa (aG h1) (aa (aG h2) (aG e)))
   exact auB
  ·have e:¬ArePr c (u,v):=fun h=>h2 h.2
   replace hnl:=aa hnl (aa (aG h1) (aa (aB h2) (aB e)))
   exact auB
 ·have e:¬ArePr c (u,v):=fun h=>h1 h.1
  replace hnl:=aa hnl (aa (aB h1) (aB e))
  exact auB
theorem zSj:FnSpec Tryz.prog 126 zNB:=by
 refine FnSpec.of_tri' (E:=know _ [] [] []) (zAl (kc zMU all_nil) all_nil all_nil) Tryz.func126 rfl rfl kr ?_
 intro C x hE hnl hfit hpre
 simp only [Tryz.ntmps126,Tryz.results126,maxLen,seval,push_cast] at hnl hfit hpre ⊢
 obtain ⟨(c:List (List Int)),⟨(u:List Int),(v:List Int)⟩,_⟩:=x
 dsimp only at hfit hpre ⊢
 have hw:(c.getD 0 []).length=wid c:=rfl
 have hr:=hpre.rows
 replace hnl:=aa hnl hw
 by_cases h1:InL c.length (-1000) 1000 u
 ·by_cases h2:InL (wid c) (-1000) 1000 v
  ·have e:ArePr c (u,v):=⟨h1,h2⟩
   replace hnl:=aa hnl (aa (aG h1) (aa (aG h2) (aG e)))
   exact auB
  ·have e:¬ArePr c (u,v):=fun h=>h2 h.2
   replace hnl:=aa hnl (aa (aG h1) (aa (aB h2) (aB e)))
   exact auB
 ·have e:¬ArePr c (u,v):=fun h=>h1 h.1
  replace hnl:=aa hnl (aa (aB h1) (aB e))
  exact auB
theorem zRa:FnSpec Tryz.prog 127 zVK:=by
 refine FnSpec.of_tri' (E:=know [] [] [] []) (zAl all_nil all_nil all_nil) Tryz.func127 rfl rfl kr ?_
 intro C x hE hnl hfit hpre
 simp only [Tryz.ntmps127,Tryz.results127,maxLen,seval,push_cast] at hnl hfit hpre ⊢
 obtain ⟨(c:List (List Int)),⟨(u:List Int),(v:List Int)⟩,_⟩:=x
 dsimp only at hfit hpre ⊢
 obtain ⟨ht,ha⟩:=hpre
 obtain ⟨hul,hua⟩:=ha.row
 obtain ⟨hvl,hva⟩:=ha.col
 dsimp only at hul hua hvl hva
 repeat' (first|(refine goK (by assumption) ?_; iterate 4 (try clear hK K))|(refine zAb fun K hK=>?_)|(refine zAa hE rfl ?_; simp +contextual only [hnl,↓kA,push_cast,seval,reduceCtorEq,cI])|refine zAc ?_|refine andS ?_|fail)
 refine zAk (fun k:Nat=>AS.of [(0,.one (.val (.sl (.sl .int)) c)),(3,.one (.box 3)),(5,.I k)] [] [(3,.one (.val (.prod (.sl .int) (.sl .int)) (u,v)))]) (fun k=>k<=c.length/\∀ i,i<k->∀ j,j<wid c->u.getD i 0+v.getD j 0<=(c.getD i []).getD j 0) (fun k=>c.length - k) 0 ⟨aq _,by omega⟩ ?_ ?_
 ·refine zAf ?_ ?_ ?_<;>simp only [push_cast,seval,reduceCtorEq,cI]
 intro k ⟨hk,hall⟩ K' hL
 repeat' (first|(refine goK (by assumption) ?_; iterate 4 (try clear hK K))|(refine zAb fun K hK=>?_)|((first|refine zAa hE rfl ?_|refine zAi ?_); simp +contextual only [hnl,↓kA,push_cast,seval,reduceCtorEq,cI])|refine zAc ?_|((first|refine zAg ?_|refine zAj ?_); simp only [thenQ,zAh,if_true,if_false,Nat.reduceEqDiff,reduceCtorEq])|(refine zAe (by rfl) (fun hb=>?_) (fun hb=>?_)<;>(try simp only [bq,reduceCtorEq] at hb)<;>(try omega))|fail)
 ·have hk':k<c.length:=by omega
  have hrow:=ht.len hk'
  have huk:=hua k (by omega)
  refine zAk (fun j:Nat=>AS.of [(0,.one (.val (.sl (.sl .int)) c)),(3,.one (.box 3)),(5,.I k),(6,.I j)] [] [(3,.one (.val (.prod (.sl .int) (.sl .int)) (u,v)))]) (fun j=>j<=wid c/\∀ j',j'<j->u.getD k 0+v.getD j' 0<=(c.getD k []).getD j' 0) (fun j=>wid c - j) 0 ⟨aq _,by omega⟩ ?_ ?_
  ·refine zAf ?_ ?_ ?_<;>simp only [push_cast,seval,reduceCtorEq,cI]
  intro j ⟨hj,hj'⟩ K2 hL2
  have hvj:=hva j
  repeat' (first|(refine goK (by assumption) ?_; iterate 4 (try clear hK K))|(refine zAb fun K hK=>?_)|((first|refine zAa hE rfl ?_|refine zAi ?_|((first|refine zAd hE 1 rfl rfl kr ?_|refine zAd hE 2 rfl rfl kr ?_|refine zAd hE 3 rfl rfl kr ?_|refine zAd hE 4 rfl rfl kr ?_); simp only [ao,List.length_nil,Nat.reduceAdd,Nat.reduceSub,ak,List.take_zero,al,ar])); simp +contextual only [hnl,↓kA,push_cast,seval,reduceCtorEq,cI])|refine zAc ?_|((first|refine zAg ?_|refine zAj ?_); simp only [thenQ,zAh,if_true,if_false,Nat.reduceEqDiff,reduceCtorEq])|(refine zAe (by rfl) (fun hb=>?_) (fun hb=>?_)<;>(try simp only [bq,reduceCtorEq] at hb)<;>(try omega))|refine andS ?_|fail)
  ·exact (aF fun h=>by have:u.getD k 0+v.getD j 0<=_:=h k hk' j (by omega); omega).symm
  ·refine hL2 _ (j+1) ⟨by omega,fun j' h1=>?_⟩ (by omega) ?_
   ·rcases ai j' j with h3|h3
    ·exact hj' j' h3
    ·obtain rfl:j'=j:=by omega
     omega
   refine zAf ?_ ?_ ?_<;>simp only [push_cast,seval,reduceCtorEq,cI]
  ·refine hL _ (k+1) ⟨by omega,fun i h1=>?_⟩ (by omega) ?_
   ·rcases ai i k with h3|h3
    ·exact hall i h3
    ·obtain rfl:i=k:=by omega
     exact fun j' h4=>hj' j' (by omega)
   refine zAf ?_ ?_ ?_<;>simp only [push_cast,seval,reduceCtorEq,cI]
 ·exact (aD fun i h1=>hall i (by omega)).symm
theorem zT7:FnSpec Tryz.prog 165 prCon:=by
 refine FnSpec.of_tri' (E:=know _ [] [] []) (zAl (kc zEW (kc zR6 all_nil)) all_nil all_nil) Tryz.func165 rfl rfl kr ?_
 intro C x hE hnl hfit hpre
 simp only [Tryz.ntmps165,Tryz.results165,maxLen,seval,push_cast] at hnl hfit hpre ⊢
 obtain ⟨(c:List (List Int)),⟨(u:List Int),(v:List Int)⟩,_⟩:=x
 dsimp only at hfit hpre ⊢
 by_cases hc:InTab 0 99 c
 ·have h1:=zDH hc
  by_cases ha:ArePr c (u,v)
  ·replace hnl:=aa hnl (aa h1 (aG ha))
   obtain ⟨hul,hua⟩:=ha.row
   obtain ⟨hvl,hva⟩:=ha.col
   dsimp only at hul hua hvl hva
   repeat' (first|(refine goK (by assumption) ?_; iterate 4 (try clear hK K))|(refine zAb fun K hK=>?_)|(refine zAa hE rfl ?_; simp +contextual only [hnl,↓kA,push_cast,seval,reduceCtorEq,cI])|refine zAc ?_|(refine zAg ?_; simp only [thenQ,zAh,if_true,if_false,Nat.reduceEqDiff,reduceCtorEq])|(refine zAe (by rfl) (fun hb=>?_) (fun hb=>?_)<;>(try simp only [bq,reduceCtorEq] at hb)<;>(try omega))|refine andS ?_|fail)
   refine zAk (fun k:Nat=>AS.of [(0,.one (.val (.sl (.sl .int)) c)),(3,.one (.box 3)),(19,.one (.val (.sl (.sl .int)) c)),(20,.I c.length),(21,.I k)] [] [(3,.one (.val (.prod (.sl .int) (.sl .int)) (u,v)))]) (fun k=>k<=c.length/\∀ i,i<k->∀ j,j<wid c->u.getD i 0+v.getD j 0<=(c.getD i []).getD j 0) (fun k=>c.length - k) 0 ⟨aq _,by omega⟩ ?_ ?_
   ·refine zAf ?_ ?_ ?_<;>simp only [push_cast,seval,reduceCtorEq,cI]
   intro k ⟨hk,hall⟩ K' hL
   repeat' (first|(refine goK (by assumption) ?_; iterate 4 (try clear hK K))|(refine zAb fun K hK=>?_)|((first|refine zAa hE rfl ?_|refine zAi ?_); simp +contextual only [hnl,↓kA,push_cast,seval,reduceCtorEq,cI])|refine zAc ?_|((first|refine zAg ?_|refine zAj ?_); simp only [thenQ,zAh,if_true,if_false,Nat.reduceEqDiff,reduceCtorEq])|(refine zAe (by rfl) (fun hb=>?_) (fun hb=>?_)<;>(try simp only [bq,reduceCtorEq] at hb)<;>(try omega))|refine andS ?_|fail)
   ·have hk':k<c.length:=by omega
    have hrow:=hc.len hk'
    have huk:=hua k (by omega)
    refine zAk (fun j:Nat=>AS.of [(0,.one (.val (.sl (.sl .int)) c)),(3,.one (.box 3)),(6,.I k),(19,.one (.val (.sl (.sl .int)) c)),(20,.I c.length),(21,.I k),(26,.one (.val (.sl .int) (c.getD k []))),(27,.I (c.getD k []).length),(28,.I j)] [] [(3,.one (.val (.prod (.sl .int) (.sl .int)) (u,v)))]) (fun j=>j<=wid c/\∀ j',j'<j->u.getD k 0+v.getD j' 0<=(c.getD k []).getD j' 0) (fun j=>wid c - j) 0 ⟨aq _,by omega⟩ ?_ ?_
    ·refine zAf ?_ ?_ ?_<;>simp only [push_cast,seval,reduceCtorEq,cI]
    intro j ⟨hj,hj'⟩ K2 hL2
    have hvj:=hva j
    repeat' (first|(refine goK (by assumption) ?_; iterate 4 (try clear hK K))|(refine zAb fun K hK=>?_)|((first|refine zAa hE rfl ?_|refine zAi ?_|((first|refine zAd hE 1 rfl rfl kr ?_|refine zAd hE 2 rfl rfl kr ?_|refine zAd hE 3 rfl rfl kr ?_|refine zAd hE 4 rfl rfl kr ?_); simp only [ao,List.length_nil,Nat.reduceAdd,Nat.reduceSub,ak,List.take_zero,al,ar])); simp +contextual only [hnl,↓kA,push_cast,seval,reduceCtorEq,cI])|refine zAc ?_|((first|refine zAg ?_|refine zAj ?_); simp only [thenQ,zAh,if_true,if_false,Nat.reduceEqDiff,reduceCtorEq])|(refine zAe (by rfl) (fun hb=>?_) (fun hb=>?_)<;>(try simp only [bq,reduceCtorEq] at hb)<;>(try omega))|refine andS ?_|fail)
    ·exact (zQ0 hc ha fun h=>by have:u.getD k 0+v.getD j 0<=_:=h k hk' j (by omega); omega).symm
    ·refine hL2 _ (j+1) ⟨by omega,fun j' h1=>?_⟩ (by omega) ?_
     ·rcases ai j' j with h3|h3
      ·exact hj' j' h3
      ·obtain rfl:j'=j:=by omega
       omega
     refine zAf ?_ ?_ ?_<;>simp only [push_cast,seval,reduceCtorEq,cI]
    ·refine hL _ (k+1) ⟨by omega,fun i h1=>?_⟩ (by omega) ?_
     ·rcases ai i k with h3|h3
      ·exact hall i h3
      ·obtain rfl:i=k:=by omega
       exact fun j' h4=>hj' j' (by omega)
     refine zAf ?_ ?_ ?_<;>simp only [push_cast,seval,reduceCtorEq,cI]
   ·exact (zMu hc ha fun i h1=>hall i (by omega)).symm
  ·have e:errPr c (u,v)=1:=zMv fun h=>ha h.2
   replace hnl:=aa hnl (aa h1 (aa (aB ha) e))
   exact auB
 ·have h1:=zDg hc
  have e:errPr c (u,v)=1:=zMv fun h=>hc h.1
  replace hnl:=aa hnl (aa h1 e)
  exact auB
end Go.Proofs.YtekfodeknpnkbaaGreatDoor
namespace Go.Proofs.YtekfodeknpnkbaaGreatDoor
open Go.RowKit Go.VS Go.OT
def zIh (a b:List Int) (p:zBp):Int:=dotK a p.1 a.length+dotK b p.2 b.length
structure WPre (a b:List Int) (p:zBp):Prop where
 a6:a.length<=6
 b6:b.length<=6
 la:p.1.length=a.length
 lb:p.2.length=b.length
 ha:∀ i,i<a.length->0<=a.getD i 0/\a.getD i 0<=200
 hb:∀ i,i<b.length->0<=b.getD i 0/\b.getD i 0<=200
 hp:∀ i,i<a.length -> -1000<=p.1.getD i 0/\p.1.getD i 0<=1000
 hq:∀ i,i<b.length -> -1000<=p.2.getD i 0/\p.2.getD i 0<=1000
theorem zF8 {x y:Int} (h1:0<=x/\x<=200) (h2 : -1000<=y/\y<=1000) : -200000<=x*y/\x*y<=200000:=by
 have k1:x*y<=x*1000:=Int.mul_le_mul_of_nonneg_left h2.2 h1.1
 have k2:x*(-1000)<=x*y:=Int.mul_le_mul_of_nonneg_left h2.1 h1.1
 omega
theorem zHu {a p:List Int} (h1:∀ i,i<a.length->0<=a.getD i 0/\a.getD i 0<=200) (h2:∀ i,i<a.length -> -1000<=p.getD i 0/\p.getD i 0<=1000):∀ k,k<=a.length -> -200000*(k:Int)<=dotK a p k/\dotK a p k<=200000*k
 | 0,_=>by simp [dotK]
 | k+1,hk=>by
  have k1:=zHu h1 h2 k (by omega)
  have k2:=zF8 (h1 k (by omega)) (h2 k (by omega))
  simp only [dotK]
  omega
@[push_cast] def zOE:Con:=⟨[.dat (.sl .int),.dat (.sl .int),.dat (.prod (.sl .int) (.sl .int))],fun (x:List Int×List Int×zBp×Unit)=>WPre x.1 x.2.1 x.2.2.1,fun (x:List Int×List Int×zBp×Unit)=>{res:=[.val .int (zIh x.1 x.2.1 x.2.2.1)]}⟩
theorem zP1:FnSpec Tryz.prog 81 zOE:=by
 refine FnSpec.of_tri' (E:=know [] [] [] []) (zAl all_nil all_nil all_nil) Tryz.func81 rfl rfl kr ?_
 intro C x hE hnl hfit hpre
 simp only [Tryz.ntmps81,Tryz.results81,maxLen,seval,push_cast] at hnl hfit hpre ⊢
 obtain ⟨(a:List Int),(b:List Int),⟨(u:List Int),(v:List Int)⟩,_⟩:=x
 dsimp only at hfit hpre ⊢
 obtain ⟨ha6,hb6,hla,hlb,ha,hb2,hp,hq⟩:=hpre
 dsimp only at hla hlb hp hq
 repeat' (first|(refine goK (by assumption) ?_; iterate 4 (try clear hK K))|(refine zAb fun K hK=>?_)|(refine zAa hE rfl ?_; simp +contextual only [hnl,↓kA,push_cast,seval,reduceCtorEq,cI])|refine zAc ?_|refine andS ?_|fail)
 refine zAk (fun k:Nat=>AS.of [(0,.one (.val (.sl .int) a)),(1,.one (.val (.sl .int) b)),(5,.one (.box 5)),(7,.I (dotK a u k)),(8,.I k)] [] [(5,.one (.val (.prod (.sl .int) (.sl .int)) (u,v)))]) (fun k=>k<=a.length) (fun k=>a.length - k) 0 (aq _) ?_ ?_
 ·refine zAf ?_ ?_ ?_<;>simp only [push_cast,seval,reduceCtorEq,cI]
  all_goals first|rfl|skip
 intro k hk K' hL
 have h1:=zHu ha hp k hk
 have h2:=ha k
 have h3:=hp k
 repeat' (first|(refine goK (by assumption) ?_; iterate 4 (try clear hK K))|(refine zAb fun K hK=>?_)|((first|refine zAa hE rfl ?_|((first|refine zAd hE 1 rfl rfl kr ?_|refine zAd hE 2 rfl rfl kr ?_|refine zAd hE 3 rfl rfl kr ?_|refine zAd hE 4 rfl rfl kr ?_); simp only [ao,List.length_nil,Nat.reduceAdd,Nat.reduceSub,ak,List.take_zero,al,ar])); simp +contextual only [hnl,↓kA,push_cast,seval,reduceCtorEq,cI])|refine zAc ?_|((first|refine zAg ?_|refine zAj ?_); simp only [thenQ,zAh,if_true,if_false,Nat.reduceEqDiff,reduceCtorEq])|(refine zAe (by rfl) (fun hb=>?_) (fun hb=>?_)<;>(try simp only [bq,reduceCtorEq] at hb)<;>(try omega))|refine andS ?_|fail)
 ·have h4:=zF8 (h2 (by omega)) (h3 (by omega))
  rw [bN] at h4
  refine ⟨by unfold InR; omega,by unfold InR; omega,?_⟩
  repeat' (first|(refine goK (by assumption) ?_; iterate 4 (try clear hK K))|(refine zAa hE rfl ?_; simp +contextual only [hnl,↓kA,push_cast,seval,reduceCtorEq,cI])|refine andS ?_|fail)
  refine hL _ (k+1) (by omega) (by omega) ?_
  refine zAf ?_ ?_ ?_<;>simp only [push_cast,seval,reduceCtorEq,cI]
  rw [dotK,bN]
 obtain rfl:k=a.length:=by omega
 refine zAk (fun k:Nat=>AS.of [(1,.one (.val (.sl .int) b)),(5,.one (.box 5)),(7,.I (dotK a u a.length+dotK b v k)),(9,.I k)] [] [(5,.one (.val (.prod (.sl .int) (.sl .int)) (u,v)))]) (fun k=>k<=b.length) (fun k=>b.length - k) 0 (aq _) ?_ ?_
 ·refine zAf ?_ ?_ ?_<;>simp only [push_cast,seval,reduceCtorEq,cI]
  all_goals first|rfl|simp [dotK]|skip
 intro k hk2 K2 hL2
 have g1:=zHu hb2 hq k hk2
 have g2:=hb2 k
 have g3:=hq k
 repeat' (first|(refine goK (by assumption) ?_; iterate 4 (try clear hK K))|(refine zAb fun K hK=>?_)|((first|refine zAa hE rfl ?_|refine zAi ?_|((first|refine zAd hE 1 rfl rfl kr ?_|refine zAd hE 2 rfl rfl kr ?_|refine zAd hE 3 rfl rfl kr ?_|refine zAd hE 4 rfl rfl kr ?_); simp only [ao,List.length_nil,Nat.reduceAdd,Nat.reduceSub,ak,List.take_zero,al,ar])); simp +contextual only [hnl,↓kA,push_cast,seval,reduceCtorEq,cI])|refine zAc ?_|((first|refine zAg ?_|refine zAj ?_); simp only [thenQ,zAh,if_true,if_false,Nat.reduceEqDiff,reduceCtorEq])|(refine zAe (by rfl) (fun hb=>?_) (fun hb=>?_)<;>(try simp only [bq,reduceCtorEq] at hb)<;>(try omega))|refine andS ?_|fail)
 ·have g4:=zF8 (g2 (by omega)) (g3 (by omega))
  rw [bN] at g4
  refine ⟨by unfold InR; omega,by unfold InR; omega,?_⟩
  repeat' (first|(refine goK (by assumption) ?_; iterate 4 (try clear hK K))|(refine zAa hE rfl ?_; simp +contextual only [hnl,↓kA,push_cast,seval,reduceCtorEq,cI])|refine andS ?_|fail)
  refine hL2 _ (k+1) (by omega) (by omega) ?_
  refine zAf ?_ ?_ ?_<;>simp only [push_cast,seval,reduceCtorEq,cI]
  rw [dotK,bN,Int.add_assoc]
 ·obtain rfl:k=b.length:=by omega
  rfl
section
variable {a b:List Int} {c:List (List Int)} {p:zBp}
theorem zV9 {x y:Int}:orV [x,y]=if x=0 then y else x:=by
 simp only [zD7,zHN]
 split
 ·split
  ·omega
  ·rfl
 ·rfl
end
end Go.Proofs.YtekfodeknpnkbaaGreatDoor
namespace Go.Proofs.YtekfodeknpnkbaaGreatDoor
open Go.RowKit Go.VS
theorem zJP (p:List (List Int)) {c:Nat} (hc:c<wid p):(flipP p).getD c []=tbl p.length fun i=>(p.getD i []).getD c 0:=zBw _ _ hc
theorem InPlan.flip {p:List (List Int)} (h:InPlan p):InPlan (flipP p):=by
 have hw:wid (flipP p)=p.length:=by
  unfold wid
  rw [zJP p (by have:=h.cols; omega),zAY]
 refine zHA (by rw [zJO]; exact h.cols) (by rw [hw]; exact h.rows) fun c hc=>?_
 rw [zJO] at hc
 rw [hw,zJP p hc]
 refine ⟨zAY _ _,fun i hi=>?_⟩
 rw [zBw _ _ hi]
 exact h.at hi hc
@[push_cast] def zW7:Con:=⟨[.dat (.sl (.sl .int))],fun _=>True,fun (x:List (List Int)×Unit) =>
 {res:=[.own (.flat 3 .int (if zAR x.1=0 then rowsP x.1 else [])),.own (.flat 3 .int (if zAR x.1=0 then colsP x.1 else [])),.val .int (zAR x.1)]}⟩
section
variable {a b:List Int} {p:List (List Int)}
end
end Go.Proofs.YtekfodeknpnkbaaGreatDoor
namespace Go.Proofs.YtekfodeknpnkbaaGreatDoor
open Go.RowKit Go.VS
def Small (p:List (List Int)):Prop:=p.length<=1000/\∀ r∈p,r.length<=1000
theorem Small.row {p:List (List Int)} (h:Small p) {i:Nat} (hi:i<p.length):(p.getD i []).length<=1000:=h.2 _ (zA0 [] hi)
@[push_cast] def zVj:Con:=⟨[.dat (.sl (.sl .int))],fun (x:List (List Int)×Unit)=>Small x.1,fun (x:List (List Int)×Unit)=>{res:=[.own (.deep 38 3 .int x.1)]}⟩
theorem zPB:FnSpec Tryz.prog 95 zVj:=by
 refine FnSpec.of_tri' (E:=know [] [] [] [12]) (zAl all_nil all_nil all_nil) Tryz.func95 rfl rfl kr ?_
 intro C x hE hnl hfit hpre
 simp only [Tryz.ntmps95,Tryz.results95,maxLen,seval,push_cast] at hnl hfit hpre ⊢
 obtain ⟨(p:List (List Int)),_⟩:=x
 dsimp only at hfit hpre ⊢
 have hl:=hpre.1
 repeat' (first|(refine goK (by assumption) ?_; iterate 4 (try clear hK K))|(refine zAb fun K hK=>?_)|(refine zAa hE rfl ?_; simp +contextual only [hnl,↓kA,push_cast,seval,reduceCtorEq,cI])|refine zAc ?_|fail)
 refine zAk (fun i:Nat=>AS.of [(0,.one (.val (.sl (.sl .int)) p)),(3,.one (.ref 19)),(4,.I i)] [(19,.deep 38 3 .int (tbl i fun r=>p.getD r []))] []) (fun i=>i<=p.length) (fun i=>p.length - i) 0 (aq _) ?_ ?_
 ·refine zAf ?_ ?_ ?_<;>simp only [push_cast,seval,reduceCtorEq,cI]
  exact ⟨by omega,zHf _⟩
 intro i hi K' hL
 replace hnl:=aa hnl (zAY i fun r=>p.getD r [])
 have hrow:=@Small.row p hpre i
 repeat' (first|(refine goK (by assumption) ?_; iterate 4 (try clear hK K))|(refine zAb fun K hK=>?_)|((first|refine zAa hE rfl ?_|refine zAi ?_); simp +contextual only [hnl,↓kA,push_cast,seval,reduceCtorEq,cI])|refine zAc ?_|((first|refine zAg ?_|refine zAj ?_); simp only [thenQ,zAh,if_true,if_false,Nat.reduceEqDiff,reduceCtorEq])|(refine zAe (by rfl) (fun hb=>?_) (fun hb=>?_)<;>(try simp only [bq,reduceCtorEq] at hb)<;>(try omega))|refine andS ?_|fail)
 ·have hrow:=hrow (by omega)
  repeat' (first|(refine goK (by assumption) ?_; iterate 4 (try clear hK K))|(refine zAb fun K hK=>?_)|((first|refine zAa hE rfl ?_|refine zAi ?_); simp +contextual only [hnl,↓kA,push_cast,seval,reduceCtorEq,cI])|refine zAc ?_|((first|refine zAg ?_|refine zAj ?_); simp only [thenQ,zAh,if_true,if_false,Nat.reduceEqDiff,reduceCtorEq])|(refine zAe (by rfl) (fun hb=>?_) (fun hb=>?_)<;>(try simp only [bq,reduceCtorEq] at hb)<;>(try omega))|refine zAF (by rfl) ?_ ?_|refine andS ?_|(refine ⟨fun hc=>?_,fun hc=>?_⟩)|(intro hc; try omega))
  refine hL _ (i+1) (by omega) (by omega) ?_
  refine zAf ?_ ?_ ?_<;>simp only [push_cast,seval,reduceCtorEq,cI]
  left
  rw [zEb]
 ·obtain rfl:i=p.length:=by omega
  rw [<-zJY p []]
end Go.Proofs.YtekfodeknpnkbaaGreatDoor
namespace Go.Proofs.YtekfodeknpnkbaaGreatDoor
open Go.RowKit Go.VS
theorem zQe:FnSpec Tryz.prog 44 zW7:=by
 refine FnSpec.of_tri' (E:=know _ [] [] []) (zAl (kc zHT (kc zQY all_nil)) all_nil all_nil) Tryz.func44 rfl rfl kr ?_
 intro C x hE hnl hfit hpre
 simp only [Tryz.ntmps44,Tryz.results44,maxLen,seval,push_cast] at hnl hfit hpre ⊢
 obtain ⟨(p:List (List Int)),_⟩:=x
 dsimp only at hfit hpre ⊢
 rcases zEO p with he|he
 ·have hin:=zDI he
  replace hnl:=aa hnl he
  exact auB
 ·replace hnl:=aa hnl he
  exact auB
def okPic (l:List Int) (n:Int):Bool:=decide (1<=l.length/\l.length<=40) && l.all fun c=>decide (0<=c/\c<n/\c<5)
def cntV (c:Int) (l:List Int):Int:=(l.count c:Nat)
def palV (l:List Int) (n:Nat):List Int:=tbl n fun c=>cntV (c:Int) l
def zSc:Clo:=⟨[.int],[.int],.bool,fun _ _=>True,fun (y:Int×Unit) (x:Int×Unit)=>decide (x.1<0) || decide (min y.1 5<=x.1)⟩
attribute [push_cast] zSc
@[push_cast] def zWc:Con:=⟨[.dat .int,.ptr .int],fun _=>True,fun (x:Int×Int×Unit)=>{res:=[.val .bool (decide (x.1<0) || decide (min x.2.1 5<=x.1))]}⟩
@[push_cast] def zXV:Con:=⟨[.dat (.sl .int),.dat .int],fun _=>True,fun (x:List Int×Int×Unit)=>{res:=[.val .bool (okPic x.1 x.2.1)]}⟩
structure PalPre (l:List Int) (n:Int):Prop where
 num:0<=n/\n<=1000
 len:l.length<=1000
 at':∀ c∈l,0<=c/\c<n
@[push_cast] def zXT:Con:=⟨[.dat (.sl .int),.dat .int],fun (x:List Int×Int×Unit)=>PalPre x.1 x.2.1,fun (x:List Int×Int×Unit)=>{res:=[.own (.flat 3 .int (palV x.1 x.2.1.toNat))]}⟩
theorem zWd:FnSpec Tryz.prog 136 zWc:=by
 refine FnSpec.of_tri' (E:=know [] [] [] []) (zAl all_nil all_nil all_nil) Tryz.func136 rfl rfl kr ?_
 intro C x hE hnl hfit hpre
 simp only [Tryz.ntmps136,Tryz.results136,maxLen,seval,push_cast] at hnl hfit hpre ⊢
 obtain ⟨(c:Int),(n:Int),_⟩:=x
 dsimp only at hfit hpre ⊢
 repeat' (first|(refine goK (by assumption) ?_; iterate 4 (try clear hK K))|(refine zAb fun K hK=>?_)|((first|refine zAa hE rfl ?_|refine zAi ?_); simp +contextual only [hnl,↓kA,push_cast,seval,reduceCtorEq,cI])|(refine ⟨fun hc=>?_,fun hc=>?_⟩)|fail)
 all_goals first|omega|(simp only [decide_eq_decide]; omega)|(simp only [hc,decide_true,decide_false,Bool.true_or,bC]; done)|(simp; done)|(simp; omega)|(simp [*]; done)|(simp [*]; omega)
theorem zSb:CloSpec Tryz.prog 136 zSc:=CloSpec.of zWd
theorem zRW {l:List Int} {n:Int} (h:1<=l.length/\l.length<=40):(!l.any fun y=>decide (y<0) || decide (min n 5<=y))=okPic l n:=by
 unfold okPic
 rw [aD h,Bool.true_and]
 induction l with
 | nil=>rfl
 | cons x l ih =>
  clear ih h
  generalize x::l=l
  induction l with
  | nil=>rfl
  | cons x l ih =>
   rw [List.any_cons,List.all_cons,Bool.not_or,ih]
   congr 1
   by_cases h1:x<0
   ·have h2:¬(0<=x/\x<n/\x<5):=by omega
    rw [aD h1,aF h2]; rfl
   ·by_cases h3:min n 5<=x
    ·have h2:¬(0<=x/\x<n/\x<5):=by omega
     rw [aF h1,aD h3,aF h2]; rfl
    ·have h2:0<=x/\x<n/\x<5:=by omega
     rw [aF h1,aF h3,aD h2]; rfl
theorem zRY {l:List Int} {n:Int} (h:¬(1<=l.length/\l.length<=40)):okPic l n=false:=by
 unfold okPic
 rw [aF h]; rfl
theorem zRX {l:List Int} {n:Int}:okPic l n=true↔(1<=l.length/\l.length<=40)/\∀ c∈l,0<=c/\c<n/\c<5:=by
 simp only [okPic,av,au,ay]
theorem zT5:FnSpec Tryz.prog 91 zXV:=by
 refine FnSpec.of_tri' (E:=know [(133,zCv)] [(136,zSc)] [] []) (zAl (all_cons zCk all_nil) (all_cons zSb all_nil) all_nil) Tryz.func91 rfl rfl kr ?_
 intro C x hE hnl hfit hpre
 simp only [Tryz.ntmps91,Tryz.results91,maxLen,seval,push_cast] at hnl hfit hpre ⊢
 obtain ⟨(l:List Int),(n:Int),_⟩:=x
 dsimp only at hfit hpre ⊢
 repeat' (first|(refine goK (by assumption) ?_; iterate 4 (try clear hK K))|(refine zAb fun K hK=>?_)|((first|refine zAa hE rfl ?_|refine zAi ?_); simp +contextual only [hnl,↓kA,push_cast,seval,reduceCtorEq,cI])|(refine ⟨fun hc=>?_,fun hc=>?_⟩)|fail)
 all_goals first
  | exact zRW (by omega)
  | exact (zRY (by omega)).symm
theorem zHp (c:Int) {l:List Int} {k:Nat} (h:k<l.length):cntV c (l.take (k+1))=cntV c (l.take k)+if l.getD k 0=c then 1 else 0:=by
 unfold cntV
 rw [bb h,List.count_append]
 rw [ab,aj h,bB]
 simp only [List.count_singleton,beq_iff_eq]
 split<;>simp
theorem zMj (c:Int) (l:List Int):0<=cntV c l/\cntV c l<=l.length:=by
 unfold cntV
 have:=List.count_le_length (a:=c) (l:=l)
 omega
theorem zR5 {l:List Int} {n k:Nat} (h:k<l.length) (hc:0<=l.getD k 0) :
 (palV (l.take k) n).set (l.getD k 0).toNat ((palV (l.take k) n).getD (l.getD k 0).toNat 0+1)=palV (l.take (k+1)) n:=by
 unfold palV
 rw [zEF]
 refine zAE fun i hi=>?_
 rw [zHp _ h]
 split
 ·rename_i e
  rw [<-e,zBw _ _ hi,ah (by omega)]
 ·rename_i e
  rw [ae (by omega),cZ]
theorem zLe:FnSpec Tryz.prog 92 zXT:=by
 refine FnSpec.of_tri' (E:=know [] [] [] []) (zAl all_nil all_nil all_nil) Tryz.func92 rfl rfl kr ?_
 intro C x hE hnl hfit hpre
 simp only [Tryz.ntmps92,Tryz.results92,maxLen,seval,push_cast] at hnl hfit hpre ⊢
 obtain ⟨(l:List Int),(n:Int),_⟩:=x
 dsimp only at hfit hpre ⊢
 obtain ⟨⟨hn0,hn1⟩,hl,hat⟩:=hpre
 obtain ⟨m,rfl⟩:∃ m:Nat,n=m:=⟨n.toNat,by omega⟩
 repeat' (first|(refine goK (by assumption) ?_; iterate 4 (try clear hK K))|(refine zAb fun K hK=>?_)|(refine zAa hE rfl ?_; simp +contextual only [hnl,↓kA,push_cast,seval,reduceCtorEq,cI])|refine zAc ?_|refine andS ?_|fail)
 refine zAk (fun k:Nat=>AS.of [(0,.one (.val (.sl .int) l)),(5,.one (.ref 9)),(10,.one (.val (.sl .int) l)),(11,.I l.length),(12,.I k)] [(9,.flat 3 .int (palV (l.take k) m))] []) (fun k=>k<=l.length) (fun k=>l.length - k) 0 (aq _) ?_ ?_
 ·refine zAf ?_ ?_ ?_<;>simp only [push_cast,seval,reduceCtorEq,cI]
  simp [palV,cntV,zF7]
 intro k hk K' hL
 by_cases hkl:k<l.length
 ·have h1:=hat _ (zA0 0 hkl)
  have h2:(l.getD k 0).toNat<m:=by omega
  have h3:(palV (l.take k) m).getD (l.getD k 0).toNat 0=cntV (l.getD k 0) (l.take k):=by
   unfold palV
   rw [zBw _ _ h2,bG h1.1]
  have h4:=zMj (l.getD k 0) (l.take k)
  have h5:(l.take k).length<=1000:=by rw [aU]; omega
  have h6:=zR5 (n:=m) hkl h1.1
  have h7:(palV (l.take k) m).length=m:=zAY _ _
  replace hnl:=aa hnl h7
  repeat' (first|(refine goK (by assumption) ?_; iterate 4 (try clear hK K))|(refine zAb fun K hK=>?_)|(refine zAa hE rfl ?_; simp +contextual only [hnl,↓kA,push_cast,seval,reduceCtorEq,cI])|refine zAc ?_|(refine zAg ?_; simp only [thenQ,zAh,if_true,if_false,Nat.reduceEqDiff,reduceCtorEq])|(refine zAe (by rfl) (fun hb=>?_) (fun hb=>?_)<;>(try simp only [bq,reduceCtorEq] at hb)<;>(try omega))|refine andS ?_|fail)
  refine hL _ (k+1) (by omega) (by omega) ?_
  refine zAf ?_ ?_ ?_<;>simp only [push_cast,seval,reduceCtorEq,cI]
  exact .inl (congrArg _ h6)
 ·obtain rfl:k=l.length:=by omega
  rw [bS]
  exact auB
end Go.Proofs.YtekfodeknpnkbaaGreatDoor
namespace Go.Proofs.YtekfodeknpnkbaaGreatDoor
open Go.RowKit Go.VS
theorem zJZ (n:Nat) (hn:n<=1000):bits .and .u64 (n:Int) 4294967295=n:=by
 have:=bits_and_u64_nat n 4294967295 (by omega) (by omega)
 rw [show ((4294967295:Nat):Int)=4294967295 from rfl] at this
 rw [this,show (4294967295:Nat)=2 ^ 32 - 1 from rfl,Nat.and_two_pow_sub_one_eq_mod,Nat.mod_eq_of_lt (by omega)]
theorem zRK (n:Nat) (hn:n<=1000) (w:World):Calls Tryz.prog 175 #[.int .u64 1,.int .u64 n] w fun e w'=>e=.returned (.tuple #[.int .u64 0,.int .u64 n])/\w'=w:=by
 have a1:bits .and .u64 1 4294967295=1:=zJZ 1 (by omega)
 have a0:bits .and .u64 0 4294967295=0:=zJZ 0 (by omega)
 have an:=zJZ n hn
 have w0:IntKind.u64.wrap 0=0:=by decide
 have wn:IntKind.u64.wrap (n:Int)=n:=IntWalk.u64_in _ (by omega)
 have d1:(n:Int) / 4294967296=0:=by omega
 go_enter Tryz.func175,Tryz.ntmps175
 go_wp2
 simp [bodyPost,results,Tryz.results175,go_sem,a1,a0,an,w0,wn,d1]
theorem mul_one (n:Nat) (hn:n<=1000) (w:World):Calls Tryz.prog 137 #[.int .u64 1,.int .u64 n] w fun e w'=>e=.returned (.tuple #[.int .u64 0,.int .u64 n])/\w'=w:=by
 go_enter Tryz.func137,Tryz.ntmps137
 go_wp2_with (go_at_call 175; refine (zRK n hn _).mono ?_; rintro e w' ⟨rfl,rfl⟩)
 simp [bodyPost,results,Tryz.results137,go_sem]
set_option maxRecDepth 20000 in
theorem zGR (v:Int) (n:Nat) (hn:n<=1000) (w:World) (b off cap:Nat) (hx:w.cell? ⟨b,off,none⟩=some (.int .i64 v)) (hlt:b<w.heap.size) :
 Calls Tryz.prog 93 #[.slice (some ⟨b,off,none⟩) 1 cap,.int .i64 n] w fun e w' =>
  e=.returned (.slice (some ⟨w.heap.size,0,none⟩) n n)/\w'.heap[w.heap.size]?=some (.cells (List.replicate n (.int .i64 v)).toArray 3 (0,0))/\Below w.heap.size w w':=by
 have wn:IntKind.u64.wrap (n:Int)=n:=IntWalk.u64_in _ (by omega)
 have wi:IntKind.i64.wrap (n:Int)=n:=cc _ (by omega)
 have w1:IntKind.u64.wrap 1=1:=by decide
 have hmk:∀ w:World,(Instr.makeSlice 38 (.int .i64 n) (.int .i64 n)).run Tryz.prog w=.ok (.slice (some ⟨w.heap.size,0,none⟩) n n) (w.alloc (.cells (List.replicate n (Value.int .i64 0)).toArray 3)):=fun w=>by
  obtain ⟨i,z,hi,hs,hby,hz,hzc⟩:=tabOK.lang.info 3 .int shI
  have h1:=cP hn hby
  have h2:((n*i.bytes:Nat):Int)<=1024000:=by omega
  rw [Int.natCast_mul] at h2
  have h3:(i.bytes:Int)*(n:Int)<=281474976710656:=by rw [bN]; omega
  have h4:=run_makeSlice (P:=Tryz.prog) (w:=w) 38 3 i z Tryz.underlying38 hi hz .i64 .i64 n n (by omega) (by omega) (by rw [aW,show i.size=1 from hs]; omega) h3 (by omega)
  rw [aW,show i.size=1 from hs,Nat.mul_one] at h4
  rw [h4]
  have hz':z.cells.toList=[Value.int .i64 0]:=hzc
  have h5:=zEv (sh:=.int) z.cells hz' (by decide) n
  have h6:(List.replicate n (Sh.int).zero).flatMap (Sh.int).cells=List.replicate n (Value.int .i64 0):=by rw [List.flatMap_replicate]; simp [Sh.cells,Sh.zero]
  rw [h6,show (Sh.int).size=1 from rfl,Nat.mul_one] at h5
  rw [show madeCells z.cells n=(List.replicate n (Value.int .i64 0)).toArray from by rw [<-Array.toList_inj,h5]]
 go_enter Tryz.func93,Tryz.ntmps93
 have hsz:(Tryz.prog.info? 3).map (·.size)=some 1:=by
  obtain ⟨i,z,hi,hs,_⟩:=tabOK.lang.info 3 .int shI
  rw [hi]
  exact congrArg some hs
 obtain ⟨W,hW⟩:∃ W,W=w.alloc (.cells (List.replicate n (Value.int .i64 0)).toArray 3):=⟨_,rfl⟩
 have hWg:W.heap[w.heap.size]?=some (.cells (List.replicate n (Value.int .i64 0)).toArray 3 (0,0)):=by rw [hW]; simp only [World.alloc,b7,if_true]
 have hWb:Below w.heap.size w W:=by rw [hW]; exact (Below.refl _ _).alloc (ap _) _
 have hWx:W.cell? ⟨b,off,none⟩=some (.int .i64 v):=by
  rw [<-hx]
  exact bt (hWb.block b hlt)
 have hWz:W.heap.size=w.heap.size+1:=by rw [hW]; simp only [World.alloc,Array.size_push]
 replace hmk:=hmk w
 rw [<-hW] at hmk
 clear hW
 go_wp2_with (first|(go_at_call 137; refine (mul_one n hn _).mono ?_; rintro e w' ⟨rfl,hw'⟩; rw [hw']; clear hw')|(show wpList _ _ _ (⟨some 33,_,_,_,_,_⟩::_) _ _; go_loud (refine wpList_copy_splice rfl _ _ _ _ rfl 3 Tryz.underlying38 hsz _ _ _ _ _ _ rfl rfl w.heap.size 0 (List.replicate n (Value.int .i64 0)) 3 hWg (List.replicate (Nat.min 1 n) (.int .i64 v)) ?c1 ?c2 ?c3 ?c4 w.heap.size w hWb (ap _) ?_)))
 case c1=>simp
 case c2 =>
  intro _ j u hj
  have hj':=(aA.1 hj).1
  rw [aE] at hj'
  have hm1:Nat.min 1 n<=1:=Nat.min_le_left _ _
  obtain rfl:j=0:=by omega
  have:u=.int .i64 v:=by simpa using (cz.1 (bW hj)).2
  rw [this]
  exact hWx
 case c3 =>
  rw [aE,aE,bj]
  exact Nat.min_le_right _ _
 case c4 =>
  intro u hu
  rw [(cz.1 hu).2]
  rfl
 ·intro w1 hc1 hb1
  go_wp2
  go_loopw [8] (fun y wr=>∃ m:Nat,m<=n/\(m=0->n=0)/\y=.int .i64 m/\wr.heap[w.heap.size]?=some (.cells (List.replicate m (Value.int .i64 v)++List.replicate (n - m) (Value.int .i64 0)).toArray 3 (0,0))/\Below w.heap.size w wr) (fun y _=>n - (intOf y).toNat)
  case atStart =>
   have hc1':w1.heap[w.heap.size]?=some (.cells (splice (List.replicate n (Value.int .i64 0)) 0 (List.replicate (Nat.min 1 n) (Value.int .i64 v))).toArray 3 (0,0)):=hc1
   have hm1:Nat.min 1 n<=1:=Nat.min_le_left _ _
   have hm2:Nat.min 1 n<=n:=Nat.min_le_right _ _
   refine ⟨Nat.min 1 n,hm2,fun h=>?_,rfl,?_,hb1⟩
   ·rcases Nat.eq_zero_or_pos n with h0|h0
    ·exact h0
    ·rw [show Nat.min 1 n=1 from Nat.min_eq_left h0] at h
     omega
   ·rw [hc1']
    congr 2
    simp [splice]
  case round =>
   obtain ⟨m,hm,hm0,rfl,hcm,hbm⟩:=hrel
   rcases ai m n with hmn|hmn
   ·have hcp:=run_copy_row (P:=Tryz.prog) wr.drew 38 38 3 3 w.heap.size m (n - m) (n - m) ⟨w.heap.size,0,none⟩ m n (List.replicate m (Value.int .i64 v)++List.replicate (n - m) (Value.int .i64 0)).toArray 3 (List.replicate (Nat.min m (n - m)) (Value.int .i64 v)) Tryz.underlying38 hsz hcm
    obtain ⟨k,hk⟩:∃ k,k=Nat.min m (n - m):=⟨_,rfl⟩
    have hk1:k<=m:=by rw [hk]; exact Nat.min_le_left _ _
    have hk2:k<=n - m:=by rw [hk]; exact Nat.min_le_right _ _
    have hk0:0<k:=by
     rw [hk]
     exact Nat.lt_min.2 ⟨by omega,by omega⟩
    rw [<-hk] at hcp
    replace hcp:=hcp (by simp) (fun j u hj=>by
     have hj':=(aA.1 hj).1
     rw [aE] at hj'
     have hu:u=.int .i64 v:=(cz.1 (bW hj)).2
     rw [hu]
     rw [bu]
     have hcm':wr.drew.heap[w.heap.size]?=some (.cells (List.replicate m (Value.int .i64 v)++List.replicate (n - m) (Value.int .i64 0)).toArray 3 (0,0)):=hcm
     simp [World.cell?,hcm',bd,show j<m by omega,bz]) (by simp; omega) (fun u hu=>by rw [(cz.1 hu).2]; rfl)
    obtain ⟨W2,hW2⟩:∃ W2,W2=wr.drew.setRow w.heap.size (((List.replicate m (Value.int .i64 v)++List.replicate (n - m) (Value.int .i64 0)).toArray.toList.take m++List.replicate k (Value.int .i64 v)++(List.replicate m (Value.int .i64 v)++List.replicate (n - m) (Value.int .i64 0)).toArray.toList.drop (m+(List.replicate k (Value.int .i64 v)).length)).toArray):=⟨_,rfl⟩
    rw [<-hW2] at hcp
    have hc2:W2.heap[w.heap.size]?=some (.cells (List.replicate (m+k) (Value.int .i64 v)++List.replicate (n - (m+k)) (Value.int .i64 0)).toArray 3 (0,0)):=by
     rw [hW2,setRow_heap wr.drew w.heap.size _ _ 3 _ hcm]
     congr 3
     rw [List.toList_toArray,aE,List.take_append_of_le_length (by simp),aS (by simp),List.drop_append,List.drop_eq_nil_of_le (by simp),aE,List.drop_replicate,bD,List.replicate_append_replicate]
     congr 2
     omega
    have hb2:Below w.heap.size w W2:=by rw [hW2]; exact below_setRow hbm.drew (ap _) _
    have hlen:(List.replicate k (Value.int .i64 v)).length=k:=aE
    rw [hlen] at hcp
    clear hW2 hc1 hk
    have hne:¬n=m:=by omega
    have wk:IntKind.i64.wrap ((m:Int)+(k:Int))=((m+k:Nat):Int):=by rw [show (m:Int)+(k:Int)=((m+k:Nat):Int) by omega]; exact cc _ (by omega)
    have hmn':(m:Int)<(n:Int):=by omega
    have hmn2:(m:Int)<=(n:Int):=by omega
    go_wp2
    go_region
    go_wp2
    go_roundw
    case rel=>exact ⟨m+k,by omega,by omega,rfl,hc2,hb2⟩
    case measure =>
     show n - (((m+k:Nat):Int)).toNat<n - ((m:Int)).toNat
     omega
   ·obtain rfl:m=n:=by omega
    go_wp2
    simp [bodyPost,results,Tryz.results93,go_sem]
    exact ⟨by simpa using hcm,hbm⟩
structure RepPre (l:List Int) (n:Int):Prop where
 len:l.length=1
 num:0<=n/\n<=1000
@[push_cast] def zXY:Con:=⟨[.dat (.sl .int),.dat .int],fun (x:List Int×Int×Unit)=>RepPre x.1 x.2.1,fun (x:List Int×Int×Unit)=>{res:=[.val (.sl .int) (List.replicate x.2.1.toNat (x.1.getD 0 0))]}⟩
theorem zM3:FnSpec Tryz.prog 93 zXY:=by
 refine ⟨⟨_,Tryz.func93,by kernel_rfl,rfl⟩,fun C γ x vs hpre hen=>?_⟩
 have hargs:=hen.args
 have hlt:=hen.ownlt
 obtain ⟨(l:List Int),(n:Int),_⟩:=x
 obtain ⟨hl,hn0,hn1⟩:=hpre
 dsimp only at hl hn0 hn1
 obtain ⟨v,rfl⟩:∃ v,l=[v]:=by
  match l,hl with
  | [v],_=>exact ⟨v,rfl⟩
 obtain ⟨k,rfl⟩:∃ k:Nat,n=k:=⟨n.toNat,by omega⟩
 obtain ⟨v0,_,rfl,h0,v1,_,rfl,h1,rfl⟩:=hargs
 obtain ⟨cs,⟨ad,cap,rfl,hc,hm,hall⟩,hv0⟩:=h0
 obtain ⟨b,off,c,rfl,hz,hbb,hp,hcell⟩:=hall 0 (by simp)
 have hp':c=[.int .i64 v]:=hp
 subst hp'
 have hcl:C.w0.cell? ⟨b,off,none⟩=some (.int .i64 v):=by simpa using hcell 0 _ rfl
 have e0:v0=.slice (some ⟨b,off,none⟩) 1 cap:=hv0
 have e1:v1=.int .i64 (k:Int):=zAC h1
 subst e0 e1
 show Calls _ _ #[.slice (some ⟨b,off,none⟩) 1 cap,.int .i64 (k:Int)] C.w0 _
 refine (zGR v k (by omega) C.w0 b off cap hcl hbb).mono ?_
 rintro e w2 ⟨rfl,hheap,hbel⟩
 refine ⟨_,γ,rfl,⟨⟨[],[],[_],rfl,⟨_,[],rfl,?_,rfl,rfl,rfl⟩,List.nodup_nil,List.nodup_nil⟩,fun p hp=>(by cases hp),fun p hp=>(by cases hp),fun b l hb=>aw (hlt b l hb) hbel.size⟩,⟨hbel.os,hbel.tape,hbel.output,hbel.size,fun b hb _=>hbel.block b hb⟩⟩
 have hfm:(List.replicate k v).flatMap (Sh.int).cells=List.replicate k (Value.int .i64 v):=by rw [List.flatMap_replicate]; simp [Sh.cells]
 have hlt2:=(aP.1 hheap).1
 have hno:γ.own C.w0.heap.size=none:=by
  cases ho:γ.own C.w0.heap.size with
  | none=>rfl
  | some l=>have:=hlt _ l ho; omega
 refine ⟨[.slice (some ⟨C.w0.heap.size,0,none⟩) k k],zA9 (e:=3) (sh:=.int) rfl ?_ (fun g hg=>?_),rfl⟩
 ·show w2.ownsRow 0 _ 1 _ (List.replicate (Int.toNat (k:Int)) v).length ((List.replicate (Int.toNat (k:Int)) v).flatMap (Sh.int).cells)
  rw [aW,hfm,aE]
  exact ⟨by simp,.inr ⟨C.w0.heap.size,k,_,rfl,aq _,hheap,ap _,by unfold maxLen; omega,by simp,by simp⟩⟩
 ·simp only [Value.ownBlock,ac] at hg
  subst hg
  exact ⟨.inr (.inl (ap _)),hno⟩
end Go.Proofs.YtekfodeknpnkbaaGreatDoor
