import Derived.Test.YtekfodeknpnkbaaGreatDoorJ8
import Derived.Shelf.Utf8.RuneCount
import Derived.Shelf.Strconv.Atoi
import Derived.Shelf.Strconv.Itoa0
import Derived.Shelf.Strconv.Itoa1
import Derived.Shelf.LaysM
import Derived.Shelf.Strconv.Itoa2
import Derived.Shelf.Strconv.Itoa3
import Derived.Shelf.Strconv.AtoiErrFast
import Derived.Shelf.Strconv.ParseIntEmpty
import Derived.Shelf.Strconv.AtoiFail
import Derived.Shelf.Strconv.Clone
import Derived.Shelf.Strconv.SyntaxError
import Derived.Shelf.LaysC
import Derived.Shelf.Strconv.ToError
import Derived.Shelf.Strconv.Lower
import Derived.Shelf.Strconv.ParseUint10
import Derived.Shelf.Strconv.ParseUint10Empty
import Derived.Shelf.Strconv.ParseUint10Any
import Derived.Shelf.Strconv.ParseInt10
import Derived.Shelf.Strconv.AtoiLong
import Derived.Shelf.Strconv.AtoiInnerAll
import Derived.Shelf.Strconv.RangeError
import Derived.Shelf.Strconv.ToErrorRange
import Derived.Shelf.Strconv.AtoiAll
import Derived.Shelf.Strconv.ErrVarAll
import Derived.Shelf.Strconv.ParseUintEmpty
import Derived.Shelf.Strconv.ParseUint10b64
import Derived.Shelf.Strings.Search1
import Derived.Shelf.Strings.Search2
import Derived.Shelf.Strings.Search3
import Derived.Shelf.Strings.Cut
import Derived.Shelf.Strings.Count
import Derived.Shelf.Strings.Shaped
import Derived.Shelf.Strings.Prefix
import Derived.Shelf.Strings.Split
import Derived.Shelf.Strings.SplitShaped
import Derived.Shelf.Bits.Mul64
import Derived.Shelf.Unicode.DecodeSlow
import Derived.Test.YtekfodeknpnkbaaGreatDoorProg
import Derived.Lib.AppendIntMem
import Derived.Lib.SmallJoins
import Derived.Lib.ConvBytes
import Derived.Lib.SplitLaws
import Derived.Lib.ItoaLen
import Derived.Lib.AtoiAllCases
set_option linter.unusedSimpArgs false
set_option linter.unusedVariables false
namespace Go.Proofs.YtekfodeknpnkbaaGreatDoor
open Go.RowKit Go.VS
def sprK (r:List Int) (k:Nat):List Int:=(List.range k).flatMap fun j=>List.replicate (r.getD j 0).toNat (j:Int)
def spr (r:List Int):List Int:=sprK r r.length
theorem zSB (r:List Int):sprK r 0=[]:=rfl
theorem zLE (r:List Int) (k:Nat):sprK r (k+1)=sprK r k++List.replicate (r.getD k 0).toNat (k:Int):=by
 simp [sprK,cT]
theorem zKh {r:List Int} (h:∀ x∈r,0<=x):∀ {k:Nat},k<=r.length->((sprK r k).length:Int)=lsum (r.take k)
 | 0,_=>by simp [zSB,lsum]
 | k+1,hk=>by
  rw [zLE,zBR r k (by omega),aL,aE,<-zKh h (k:=k) (by omega)]
  have:=h _ (zA0 0 (show k<r.length by omega))
  omega
def pixV (l:List Int) (p:List (List Int)) (k:Nat):Int:=(spr (p.getD (l.getD k 0).toNat [])).getD (cntV (l.getD k 0) (l.take k)).toNat 0
def zR4 (l:List Int) (p:List (List Int)):List Int:=tbl l.length (pixV l p)
def restV (l:List Int) (p:List (List Int)) (k:Nat):List (List Int):=tbl p.length fun c=>(spr (p.getD c [])).drop (cntV (c:Int) (l.take k)).toNat
def colV (p:List (List Int)) (i j:Nat):List (List Int):=tbl p.length fun c=>if c<i then spr (p.getD c []) else if c=i then sprK (p.getD i []) j else []
def zCm (l:List Int) (p:List (List Int)):Int:=if zAR p=0 then if okPic l p.length=true then if rowsP p=palV l p.length then 0 else 5 else 1 else 1
@[push_cast] def zT3:Con:=⟨[.dat (.sl .int),.dat (.sl (.sl .int))],fun _=>True,fun (x:List Int×List (List Int)×Unit) =>
 {res:=[.own (.flat 3 .int (if zCm x.1 x.2.1=0 then zR4 x.1 x.2.1 else [])),.val .int (zCm x.1 x.2.1)]}⟩
section
variable {l:List Int} {p:List (List Int)} {i j k:Nat}
theorem zOX (h:zAR p=1):zCm l p=1:=by simp [zCm,h]
theorem zOY (h:zAR p=0) (h2:okPic l p.length=false):zCm l p=1:=by simp [zCm,h,h2]
theorem zOZ (h:zAR p=0) (h2:okPic l p.length=true) (h3:¬rowsP p=palV l p.length):zCm l p=5:=by simp [zCm,h,h2,h3]
theorem zOW (h:zAR p=0) (h2:okPic l p.length=true) (h3:rowsP p=palV l p.length):zCm l p=0:=by simp [zCm,h,h2,h3]
theorem zS6:(colV p i j).length=p.length:=zAY _ _
theorem zVi (hi:i<p.length):(colV p i j).getD i []=sprK (p.getD i []) j:=by
 unfold colV
 rw [zBw _ _ hi,ae (aZ _),ah rfl]
theorem zQL:colV p 0 0=List.replicate p.length []:=by
 unfold colV
 rw [<-zF7]
 refine zAE fun c hc=>?_
 rw [ae (bE _)]
 split<;>rfl
theorem zS7 (hi:i<p.length):(colV p i j).set i (sprK (p.getD i []) j++List.replicate ((p.getD i []).getD j 0).toNat (j:Int))=colV p i (j+1):=by
 unfold colV
 rw [zEF]
 refine zAE fun c hc=>?_
 by_cases h:c=i
 ·subst h
  rw [ah rfl,ae (aZ _),ah rfl,zLE]
 ·rw [ae h,ae h,ae h]
theorem zQK (hi:i<p.length):colV p i (p.getD i []).length=colV p (i+1) 0:=by
 unfold colV
 refine zAE fun c hc=>?_
 by_cases h:c=i
 ·subst h
  rw [ae (aZ _),ah rfl,ah (bT _)]; rfl
 ·by_cases h2:c<i
  ·rw [ah h2,ah (by omega)]
  ·rw [ae h2,ae h,ae (by omega)]
   split<;>rfl
theorem zPH:colV p p.length 0=restV l p 0:=by
 unfold colV restV
 refine zAE fun c hc=>?_
 rw [ah hc]
 rfl
theorem zSr:(restV l p k).length=p.length:=zAY _ _
theorem zUk (h:(l.getD k 0).toNat<p.length) (h0:0<=l.getD k 0):(restV l p k).getD (l.getD k 0).toNat []=(spr (p.getD (l.getD k 0).toNat [])).drop (cntV (l.getD k 0) (l.take k)).toNat:=by
 unfold restV
 rw [zBw _ _ h,bG h0]
theorem zSs (hk:k<l.length) (h0:0<=l.getD k 0):(restV l p k).set (l.getD k 0).toNat (((spr (p.getD (l.getD k 0).toNat [])).drop (cntV (l.getD k 0) (l.take k)).toNat).drop 1)=restV l p (k+1):=by
 unfold restV
 rw [zEF]
 refine zAE fun c hc=>?_
 rw [zHp _ hk]
 have:=zMj (l.getD k 0) (l.take k)
 split
 ·rename_i e
  rw [e,ah (by omega),List.drop_drop,bG h0]
  congr 1
 ·rename_i e
  rw [ae (by omega),cZ]
end
theorem zKy (c:Int) (l:List Int) (k:Nat):cntV c (l.take k)<=cntV c l:=by
 unfold cntV
 have:(l.take k).count c<=l.count c:=List.Sublist.count_le _ (List.take_sublist k l)
 omega
theorem zWk {p:List (List Int)} (hin:InPlan p) {i:Nat} (hi:i<p.length):((spr (p.getD i [])).length:Int)=lsum (p.getD i []):=by
 have h:=zKh (r:=p.getD i []) (fun x hx=>by
  obtain ⟨k,hk,rfl⟩:=aN hx
  have:=hin.at hi (show k<wid p by rw [<-hin.row hi]; exact hk)
  rw [ab (l:=p.getD i []),aj hk] at this
  exact this.1) (ap _)
 rw [bS] at h
 exact h
theorem zWh {l:List Int} {p:List (List Int)} (h:rowsP p=palV l p.length) {i:Nat} (hi:i<p.length):lsum (p.getD i [])=cntV (i:Int) l:=by
 have h1:=congrArg (fun x=>x.getD i 0) h
 simp only [palV,zBw _ _ hi] at h1
 rw [<-h1,rowsP,ab,ab,bc,aj hi]
 rfl
set_option maxRecDepth 10000 in
theorem zPq:FnSpec Tryz.prog 47 zT3:=by
 refine FnSpec.of_tri' (E:=know _ [] [] []) (zAl (kc zHT (kc zT5 (kc zQe (kc zLe (kc zOT (kc zM3 all_nil)))))) all_nil all_nil) Tryz.func47 rfl rfl kr ?_
 intro C x hE hnl hfit hpre
 simp only [Tryz.ntmps47,Tryz.results47,maxLen,seval,push_cast] at hnl hfit hpre ⊢
 obtain ⟨(l:List Int),(p:List (List Int)),_⟩:=x
 dsimp only at hfit hpre ⊢
 rcases zEO p with he|he
 rotate_left
 ·replace hnl:=aa hnl (aa he (zOX (l:=l) he))
  exact auB
 have hin:=zDI he
 cases hpi:okPic l p.length with
 | false =>
  replace hnl:=aa hnl (aa he (aa hpi (zOY he hpi)))
  exact auB
 | true =>
 obtain ⟨⟨g1,g2⟩,g3⟩:=zRX.1 hpi
 have hp:PalPre l p.length:=⟨by have:=hin.rows; omega,by omega,fun c hc=>by have:=g3 c hc; omega⟩
 by_cases hrw:rowsP p=palV l p.length
 rotate_left
 ·replace hnl:=aa hnl (aa he (aa hpi (aa (zOZ he hpi hrw) (aa (aG hp) (aB hrw)))))
  exact auB
 have hz:=zOW he hpi hrw
 have hrows:=hin.rows
 have hcols:=hin.cols
 replace hnl:=aa hnl (aa he (aa hpi (aa hz (aa (aG hp) (aG hrw)))))
 repeat' (first|(refine goK (by assumption) ?_; iterate 4 (try clear hK K))|(refine zAb fun K hK=>?_)|(refine zAa hE rfl ?_; simp +contextual only [hnl,↓kA,push_cast,seval,reduceCtorEq,cI])|refine zAc ?_|(refine zAg ?_; simp only [thenQ,zAh,if_true,if_false,Nat.reduceEqDiff,reduceCtorEq])|(refine zAe (by rfl) (fun hb=>?_) (fun hb=>?_)<;>(try simp only [bq,reduceCtorEq] at hb)<;>(try omega))|refine andS ?_|fail)
 refine zAk (fun i:Nat=>AS.of [(0,.one (.val (.sl .int) l)),(10,.one (.ref 43)),(44,.one (.val (.sl (.sl .int)) p)),(45,.I p.length),(46,.I i)] [(43,.deep 38 3 .int (colV p i 0))] []) (fun i=>i<=p.length) (fun i=>p.length - i) 0 (aq _) ?_ ?_
 ·refine zAf ?_ ?_ ?_<;>simp only [push_cast,seval,reduceCtorEq,cI]
  exact .inl (by rw [zQL])
 intro i hi K' hL
 by_cases hil:i<p.length
 ·have hw:=hin.row hil
  have hat:=fun j (hj:j<(p.getD i []).length)=>hin.at hil (show j<wid p by omega)
  repeat' (first|(refine goK (by assumption) ?_; iterate 4 (try clear hK K))|(refine zAb fun K hK=>?_)|(refine zAa hE rfl ?_; simp +contextual only [hnl,↓kA,push_cast,seval,reduceCtorEq,cI])|refine zAc ?_|(refine zAg ?_; simp only [thenQ,zAh,if_true,if_false,Nat.reduceEqDiff,reduceCtorEq])|(refine zAe (by rfl) (fun hb=>?_) (fun hb=>?_)<;>(try simp only [bq,reduceCtorEq] at hb)<;>(try omega))|refine andS ?_|fail)
  refine zAk (fun j:Nat=>AS.of [(0,.one (.val (.sl .int) l)),(10,.one (.ref 43)),(11,.I i),(44,.one (.val (.sl (.sl .int)) p)),(45,.I p.length),(46,.I i),(51,.one (.val (.sl .int) (p.getD i []))),(52,.I (p.getD i []).length),(53,.I j)] [(43,.deep 38 3 .int (colV p i j))] []) (fun j=>j<=(p.getD i []).length) (fun j=>(p.getD i []).length - j) 0 (aq _) ?_ ?_
  ·refine zAf ?_ ?_ ?_<;>simp only [push_cast,seval,reduceCtorEq,cI]
  intro j hj K'' hL2
  by_cases hjl:j<(p.getD i []).length
  ·have h1:=hat j hjl
   have hr:RepPre [(j:Int)] ((p.getD i []).getD j 0):=⟨rfl,by omega⟩
   have h2:(colV p i j).length=p.length:=zS6
   have h3:=zVi (p:=p) (j:=j) hil
   replace hnl:=aa hnl (aa h2 (aa h3 (aG hr)))
   have h4:=hin.sumR hil j
   have h5:((sprK (p.getD i []) j).length:Int)=lsum ((p.getD i []).take j):=zKh (fun x hx=>by obtain ⟨k,hk,rfl⟩:=aN hx; have:=hat k hk; rw [ab,aj hk] at this; exact this.1) hj
   have h6:=zS7 (p:=p) (j:=j) hil
   repeat' (first|(refine zEc hE 3 [0,1] rfl (by decide +kernel) ?_; simp only [ao,List.length_nil,Nat.reduceAdd,Nat.reduceSub,ak,List.take_zero,al,ar,pickM,headM,b8,List.filterMap_nil,aY,bi,List.contains_cons,List.contains_nil,Nat.reduceBEq,bY,bC,Bool.true_or,cF,if_true,aQ,if_false,bZ,bD]; simp +contextual only [hnl,↓kA,push_cast,seval,reduceCtorEq,cI])|(first|(refine goK (by assumption) ?_; iterate 4 (try clear hK K))|(refine zAb fun K hK=>?_)|((first|refine zAa hE rfl ?_|refine zAi ?_|((first|refine zAd hE 1 rfl rfl kr ?_|refine zAd hE 2 rfl rfl kr ?_|refine zAd hE 3 rfl rfl kr ?_|refine zAd hE 4 rfl rfl kr ?_); simp only [ao,List.length_nil,Nat.reduceAdd,Nat.reduceSub,ak,List.take_zero,al,ar])); simp +contextual only [hnl,↓kA,push_cast,seval,reduceCtorEq,cI])|refine zAc ?_|((first|refine zAg ?_|refine zAj ?_); simp only [thenQ,zAh,if_true,if_false,Nat.reduceEqDiff,reduceCtorEq])|(refine zAe (by rfl) (fun hb=>?_) (fun hb=>?_)<;>(try simp only [bq,reduceCtorEq] at hb)<;>(try omega))|refine zAF (by rfl) ?_ ?_|refine andS ?_|(refine ⟨fun hc=>?_,fun hc=>?_⟩)|(intro hc; try omega)))
   refine ⟨⟨hil,by omega,by rw [aE]; omega⟩,?_⟩
   repeat' (first|(refine goK (by assumption) ?_; iterate 4 (try clear hK K))|(refine zAa hE rfl ?_; simp +contextual only [hnl,↓kA,push_cast,seval,reduceCtorEq,cI])|refine andS ?_|fail)
   refine hL2 _ (j+1) (by omega) (by omega) ?_
   refine zAf ?_ ?_ ?_<;>simp only [push_cast,seval,reduceCtorEq,cI]
   exact .inl (by rw [h6])
  ·obtain rfl:j=(p.getD i []).length:=by omega
   rw [zQK hil]
   repeat' (first|(refine goK (by assumption) ?_; iterate 4 (try clear hK K))|(refine zAb fun K hK=>?_)|(refine zAa hE rfl ?_; simp +contextual only [hnl,↓kA,push_cast,seval,reduceCtorEq,cI])|(refine zAj ?_; simp only [thenQ,zAh,if_true,if_false,Nat.reduceEqDiff,reduceCtorEq])|(refine zAe (by rfl) (fun hb=>?_) (fun hb=>?_)<;>(try simp only [bq,reduceCtorEq] at hb)<;>(try omega))|refine andS ?_|fail)
   refine hL _ (i+1) (by omega) (by omega) ?_
   refine zAf ?_ ?_ ?_<;>simp only [push_cast,seval,reduceCtorEq,cI]
 ·obtain rfl:i=p.length:=by omega
  rw [zPH (l:=l)]
  repeat' (first|(refine goK (by assumption) ?_; iterate 4 (try clear hK K))|(refine zAb fun K hK=>?_)|(refine zAa hE rfl ?_; simp +contextual only [hnl,↓kA,push_cast,seval,reduceCtorEq,cI])|refine zAc ?_|(refine zAj ?_; simp only [thenQ,zAh,if_true,if_false,Nat.reduceEqDiff,reduceCtorEq])|(refine zAe (by rfl) (fun hb=>?_) (fun hb=>?_)<;>(try simp only [bq,reduceCtorEq] at hb)<;>(try omega))|fail)
  refine zWo (r:=43) (by simp only [push_cast,seval,reduceCtorEq,cI]; rfl) ?_
  refine zAk (fun k:Nat=>AS.of [(10,.one (.ref 43)),(15,.one (.ref 86)),(72,.one (.val (.sl .int) l)),(73,.I l.length),(74,.I k)] [(43,.rags 38 .int (restV l p k)),(86,.flat 3 .int (tbl k (pixV l p)))] []) (fun k=>k<=l.length) (fun k=>l.length - k) 0 (aq _) ?_ ?_
  ·refine zAf ?_ ?_ ?_<;>simp only [push_cast,seval,reduceCtorEq,cI]
   first|omega|exact ⟨by omega,rfl⟩
  intro k hk K' hL
  by_cases hkl:k<l.length
  ·have h1:=g3 _ (zA0 0 hkl)
   have h2:(l.getD k 0).toNat<p.length:=by omega
   have h3:=zUk (l:=l) (p:=p) h2 h1.1
   have h4:=zSs (l:=l) (p:=p) hkl h1.1
   have h5:(restV l p k).length=p.length:=zSr
   have h6:((spr (p.getD (l.getD k 0).toNat [])).length:Int)=lsum (p.getD (l.getD k 0).toNat []):=zWk hin h2
   have h7:cntV (l.getD k 0) (l.take k)+1<=lsum (p.getD (l.getD k 0).toNat []):=by
    rw [zWh hrw h2,bG h1.1]
    have e1:=zHp (l.getD k 0) hkl
    rw [ah rfl] at e1
    have e2:=zKy (l.getD k 0) l (k+1)
    omega
   have h8:((spr (p.getD (l.getD k 0).toNat [])).drop (cntV (l.getD k 0) (l.take k)).toNat).getD 0 0=pixV l p k:=by
    unfold pixV
    rw [ab,b9,Nat.add_zero,<-ab]
   have h9:((spr (p.getD (l.getD k 0).toNat [])).drop (cntV (l.getD k 0) (l.take k)).toNat).length=(spr (p.getD (l.getD k 0).toNat [])).length - (cntV (l.getD k 0) (l.take k)).toNat:=bQ
   have h10:=zMj (l.getD k 0) (l.take k)
   have h11:(tbl k (pixV l p)).length=k:=zAY _ _
   replace hnl:=aa hnl (aa h3 (aa h5 (aa h8 (aa h9 h11))))
   repeat' (first|(refine goK (by assumption) ?_; iterate 4 (try clear hK K))|(refine zAb fun K hK=>?_)|(refine zAa hE rfl ?_; simp +contextual only [hnl,↓kA,push_cast,seval,reduceCtorEq,cI])|refine zAc ?_|(refine zAg ?_; simp only [thenQ,zAh,if_true,if_false,Nat.reduceEqDiff,reduceCtorEq])|(refine zAe (by rfl) (fun hb=>?_) (fun hb=>?_)<;>(try simp only [bq,reduceCtorEq] at hb)<;>(try omega))|refine andS ?_|fail)
   refine hL _ (k+1) (by omega) (by omega) ?_
   refine zAf ?_ ?_ ?_<;>simp only [push_cast,seval,reduceCtorEq,cI]
   exact ⟨.inl (by rw [h4]),.inl (by rw [zEb])⟩
  ·obtain rfl:k=l.length:=by omega
   repeat' (first|(refine goK (by assumption) ?_; iterate 4 (try clear hK K))|(refine zAb fun K hK=>?_)|((first|refine zAa hE rfl ?_|refine zAi ?_); simp +contextual only [hnl,↓kA,push_cast,seval,reduceCtorEq,cI])|(refine zAj ?_; simp only [thenQ,zAh,if_true,if_false,Nat.reduceEqDiff,reduceCtorEq])|(refine zAe (by rfl) (fun hb=>?_) (fun hb=>?_)<;>(try simp only [bq,reduceCtorEq] at hb)<;>(try omega))|fail)
   rfl
end Go.Proofs.YtekfodeknpnkbaaGreatDoor
namespace Go.Proofs.YtekfodeknpnkbaaGreatDoor
open Go.RowKit Go.VS
def sumK (n:Int) (t:ByteArray):Nat->Int
 | 0=>((n.tmod 1000003)+1000003).tmod 1000003
 | k+1=>(sumK n t k*257+((t.data.toList.getD k 0).toNat:Int)+1).tmod 1000003
def sumV (n:Int) (t:ByteArray):Int:=sumK n t t.size
theorem zJj {x:Int} (h:0<=x):0<=x.tmod 1000003/\x.tmod 1000003<=1000002:=by
 rw [Int.tmod_eq_emod_of_nonneg h]
 omega
theorem zOx (x:Int) : -1000002<=x.tmod 1000003/\x.tmod 1000003<=1000002:=by
 have h1:=Int.lt_tmod_of_pos x (show (0:Int)<1000003 by omega)
 have h2:=Int.tmod_lt_of_pos x (show (0:Int)<1000003 by omega)
 omega
theorem zDT (n:Int) (t:ByteArray):∀ k,0<=sumK n t k/\sumK n t k<=1000002
 | 0=>zJj (by have:=zOx n; omega)
 | k+1=>by
  have:=zDT n t k
  exact zJj (by omega)
theorem zOM (t:ByteArray):(zFA t).length=t.size:=by
 unfold zFA
 rw [bp,ax]; rfl
theorem zOL {t:ByteArray} {k:Nat} (h:k<t.size):(zFA t).getD k 0=(t.data.toList.getD k 0).toNat:=by
 have h':k<t.data.toList.length:=by rw [ax]; exact h
 unfold zFA
 rw [ab,bc,aj h',ab,aj h']
 rfl
@[push_cast] def zWm:Con:=⟨[.dat .int,.dat .str],fun (x:Int×ByteArray×Unit)=>x.2.1.size<=1000000,fun (x:Int×ByteArray×Unit)=>{res:=[.val .int (sumV x.1 x.2.1)]}⟩
theorem zIQ:FnSpec Tryz.prog 40 zWm:=by
 refine FnSpec.of_tri' (E:=know [] [] [] []) (zAl all_nil all_nil all_nil) Tryz.func40 rfl rfl kr ?_
 intro C x hE hnl hfit hpre
 simp only [Tryz.ntmps40,Tryz.results40,maxLen,seval,push_cast] at hnl hfit hpre ⊢
 obtain ⟨(n:Int),(t:ByteArray),_⟩:=x
 dsimp only at hfit hpre ⊢
 have h0:=zOx n
 have hbl:=zOM t
 replace hnl:=aa hnl hbl
 repeat' (first|(refine goK (by assumption) ?_; iterate 4 (try clear hK K))|(refine zAb fun K hK=>?_)|(refine zAa hE rfl ?_; simp +contextual only [hnl,↓kA,push_cast,seval,reduceCtorEq])|refine zAc ?_|refine andS ?_|fail)
 refine zAk (fun k:Nat=>AS.of [(5,.I (sumK n t k)),(13,.one (.val (.sl .byte) (zFA t))),(14,.I t.size),(15,.I k)] [] []) (fun k=>k<=t.size) (fun k=>t.size - k) 0 (aq _) ?_ ?_
 ·refine zAf ?_ ?_ ?_<;>simp only [push_cast,seval,reduceCtorEq]
  rfl
 intro k hk K' hL
 have hb1:=zDT n t k
 have hb2:((t.data.toList.getD k 0).toNat:Int)<=255:=by have:=(t.data.toList.getD k 0).toNat_lt; omega
 rcases ai k t.size with hkt|hkt
 ·replace hnl:=aa hnl (zOL hkt)
  repeat' (first|(refine goK (by assumption) ?_; iterate 4 (try clear hK K))|(refine zAb fun K hK=>?_)|(refine zAa hE rfl ?_; simp +contextual only [hnl,↓kA,push_cast,seval,reduceCtorEq])|refine zAc ?_|(refine zAg ?_; simp only [thenQ,zAh,if_true,if_false,Nat.reduceEqDiff,reduceCtorEq])|(refine zAe (by rfl) (fun hb=>?_) (fun hb=>?_)<;>(try simp only [bq,reduceCtorEq] at hb)<;>(try omega))|refine andS ?_|fail)
  refine hL _ (k+1) (by omega) (by omega) ?_
  refine zAf ?_ ?_ ?_<;>simp only [push_cast,seval,reduceCtorEq]
  rfl
 ·obtain rfl:k=t.size:=by omega
  repeat' (first|(refine goK (by assumption) ?_; iterate 4 (try clear hK K))|(refine zAb fun K hK=>?_)|((first|refine zAa hE rfl ?_|refine zAi ?_); simp +contextual only [hnl,↓kA,push_cast,seval,reduceCtorEq])|(refine zAj ?_; simp only [thenQ,zAh,if_true,if_false,Nat.reduceEqDiff,reduceCtorEq])|(refine zAe (by rfl) (fun hb=>?_) (fun hb=>?_)<;>(try simp only [bq,reduceCtorEq] at hb)<;>(try omega))|fail)
  rfl
end Go.Proofs.YtekfodeknpnkbaaGreatDoor
namespace Go.Proofs
open Go.Shelf
def Tryz.laysM171_ren:Go.Shelf.Ren:=⟨fun|171=>101|243=>150|246=>192|283=>213|284=>214|285=>215|286=>216|129=>226|317=>225|318=>227|319=>228|320=>229|337=>232|338=>233|n=>n,fun|3=>3|9=>9|2=>2|4=>4|171=>258|0=>0|53=>214|37=>138|5=>5|173=>261|212=>274|51=>91|20=>20|213=>275|46=>55|232=>284|233=>285|n=>n,fun|17=>4|18=>7|19=>8|n=>n⟩
theorem Tryz.laysM171:Go.Proofs.LaysM.n171 Tryz.prog Tryz.laysM171_ren:={
 mixed:=by kernel_rfl
 f129:=Tryz.func226.trans (congrArg some (by kernel_rfl))
 f171:=Tryz.func101.trans (congrArg some (by kernel_rfl))
 f243:=Tryz.func150.trans (congrArg some (by kernel_rfl))
 f246:=Tryz.func192.trans (congrArg some (by kernel_rfl))
 f283:=Tryz.func213.trans (congrArg some (by kernel_rfl))
 f284:=Tryz.func214.trans (congrArg some (by kernel_rfl))
 f285:=Tryz.func215.trans (congrArg some (by kernel_rfl))
 f286:=Tryz.func216.trans (congrArg some (by kernel_rfl))
 f317:=Tryz.func225.trans (congrArg some (by kernel_rfl))
 f318:=Tryz.func227.trans (congrArg some (by kernel_rfl))
 f319:=Tryz.func228.trans (congrArg some (by kernel_rfl))
 f320:=Tryz.func229.trans (congrArg some (by kernel_rfl))
 f337:=Tryz.func232.trans (congrArg some (by kernel_rfl))
 f338:=Tryz.func233.trans (congrArg some (by kernel_rfl))
 t0:=Tryz.underlying0
 a0:=Tryz.isAgg0
 z0:=Tryz.sizeOf0
 v0:=Tryz.zeroValue0
 t2:=Tryz.underlying2
 a2:=Tryz.isAgg2
 z2:=Tryz.sizeOf2
 v2:=Tryz.zeroValue2
 t3:=Tryz.underlying3
 a3:=Tryz.isAgg3
 z3:=Tryz.sizeOf3
 v3:=Tryz.zeroValue3
 t4:=Tryz.underlying4
 a4:=Tryz.isAgg4
 z4:=Tryz.sizeOf4
 v4:=Tryz.zeroValue4
 t5:=Tryz.underlying5
 a5:=Tryz.isAgg5
 z5:=Tryz.sizeOf5
 v5:=Tryz.zeroValue5
 t9:=Tryz.underlying9
 a9:=Tryz.isAgg9
 z9:=Tryz.sizeOf9
 v9:=Tryz.zeroValue9
 t20:=Tryz.underlying20
 a20:=Tryz.isAgg20
 z20:=Tryz.sizeOf20
 v20:=Tryz.zeroValue20
 t37:=Tryz.underlying138
 a37:=Tryz.isAgg138
 z37:=Tryz.sizeOf138
 v37:=Tryz.zeroValue138
 t46:=Tryz.underlying55
 a46:=Tryz.isAgg55
 z46:=Tryz.sizeOf55
 v46:=Tryz.zeroValue55
 t51:=Tryz.underlying91
 a51:=Tryz.isAgg91
 z51:=Tryz.sizeOf91
 v51:=Tryz.zeroValue91
 t53:=Tryz.underlying214
 a53:=Tryz.isAgg214
 z53:=Tryz.sizeOf214
 v53:=Tryz.zeroValue214
 t171:=Tryz.underlying258
 a171:=Tryz.isAgg258
 z171:=Tryz.sizeOf258
 v171:=Tryz.zeroValue258
 t173:=Tryz.underlying261
 a173:=Tryz.isAgg261
 z173:=Tryz.sizeOf261
 v173:=Tryz.zeroValue261
 t212:=Tryz.underlying274
 a212:=Tryz.isAgg274
 z212:=Tryz.sizeOf274
 v212:=Tryz.zeroValue274
 t213:=Tryz.underlying275
 a213:=Tryz.isAgg275
 z213:=Tryz.sizeOf275
 t232:=Tryz.underlying284
 a232:=Tryz.isAgg284
 z232:=Tryz.sizeOf284
 v232:=Tryz.zeroValue284
 t233:=Tryz.underlying285
 a233:=Tryz.isAgg285
 z233:=Tryz.sizeOf285
 v233:=Tryz.zeroValue285
 g17:=by kernel_rfl
 g18:=by kernel_rfl
 g19:=by kernel_rfl
 i0:=by kernel_rfl
 i2:=by kernel_rfl
 i3:=by kernel_rfl
 i4:=by kernel_rfl
 i5:=by kernel_rfl
 i9:=by kernel_rfl
 i20:=by kernel_rfl
 i37:=by kernel_rfl
 i46:=by kernel_rfl
 i51:=by kernel_rfl
 i53:=by kernel_rfl
 i171:=by kernel_rfl
 i173:=by kernel_rfl
 i212:=by kernel_rfl
 i232:=by kernel_rfl
 i233:=by kernel_rfl
 m17:=by kernel_rfl
 m18:=by kernel_rfl
 m19:=by kernel_rfl}
open Go.RowKit Go.Sort Go.Lib in
theorem Tryz.strconv_Itoa (n:Int) (h0 : -9223372036854775808<=n) (h1:n<=9223372036854775807) (w:World) (htab:Lib.TabIs Tryz.prog w "internal/strconv.uint64pow10" .u64 Lib.pow10Tab) :
 Calls Tryz.prog 101 #[.int .i64 n] w fun e w'=>e=.returned (.string ⟨(Lib.itoa n).toArray⟩)/\∃ k os,w'=grow (w.drewN k) os:=Any.strconv_Itoa Tryz.laysM171 n h0 h1 w htab
def Tryz.laysC172_ren:Go.Shelf.Ren:=⟨fun|172=>100|244=>148|245=>149|247=>187|279=>188|280=>189|281=>190|282=>191|287=>210|316=>211|171=>101|205=>212|321=>223|322=>224|243=>150|246=>192|283=>213|284=>214|285=>215|286=>216|129=>226|317=>225|318=>227|319=>228|320=>229|337=>232|338=>233|n=>n,fun|9=>9|3=>3|75=>102|76=>154|4=>4|5=>5|167=>222|37=>138|0=>0|85=>223|2=>2|168=>225|53=>214|175=>252|46=>55|210=>256|127=>269|145=>272|143=>270|21=>21|171=>258|173=>261|212=>274|51=>91|20=>20|213=>275|232=>284|233=>285|80=>37|n=>n,fun|15=>2|16=>3|17=>4|18=>7|19=>8|n=>n⟩
theorem Tryz.laysC172:Go.Proofs.LaysC.n172 Tryz.prog Tryz.laysC172_ren:={
 mixed:=by kernel_rfl
 f129:=Tryz.func226.trans (congrArg some (by kernel_rfl))
 f171:=Tryz.func101.trans (congrArg some (by kernel_rfl))
 f172:=Tryz.func100.trans (congrArg some (by kernel_rfl))
 f205:=Tryz.func212.trans (congrArg some (by kernel_rfl))
 f243:=Tryz.func150.trans (congrArg some (by kernel_rfl))
 f244:=Tryz.func148.trans (congrArg some (by kernel_rfl))
 f245:=Tryz.func149.trans (congrArg some (by kernel_rfl))
 f246:=Tryz.func192.trans (congrArg some (by kernel_rfl))
 f247:=Tryz.func187.trans (congrArg some (by kernel_rfl))
 f279:=Tryz.func188.trans (congrArg some (by kernel_rfl))
 f280:=Tryz.func189.trans (congrArg some (by kernel_rfl))
 f281:=Tryz.func190.trans (congrArg some (by kernel_rfl))
 f282:=Tryz.func191.trans (congrArg some (by kernel_rfl))
 f283:=Tryz.func213.trans (congrArg some (by kernel_rfl))
 f284:=Tryz.func214.trans (congrArg some (by kernel_rfl))
 f285:=Tryz.func215.trans (congrArg some (by kernel_rfl))
 f286:=Tryz.func216.trans (congrArg some (by kernel_rfl))
 f287:=Tryz.func210.trans (congrArg some (by kernel_rfl))
 f316:=Tryz.func211.trans (congrArg some (by kernel_rfl))
 f317:=Tryz.func225.trans (congrArg some (by kernel_rfl))
 f318:=Tryz.func227.trans (congrArg some (by kernel_rfl))
 f319:=Tryz.func228.trans (congrArg some (by kernel_rfl))
 f320:=Tryz.func229.trans (congrArg some (by kernel_rfl))
 f321:=Tryz.func223.trans (congrArg some (by kernel_rfl))
 f322:=Tryz.func224.trans (congrArg some (by kernel_rfl))
 f337:=Tryz.func232.trans (congrArg some (by kernel_rfl))
 f338:=Tryz.func233.trans (congrArg some (by kernel_rfl))
 t0:=Tryz.underlying0
 a0:=Tryz.isAgg0
 z0:=Tryz.sizeOf0
 v0:=Tryz.zeroValue0
 t2:=Tryz.underlying2
 a2:=Tryz.isAgg2
 z2:=Tryz.sizeOf2
 v2:=Tryz.zeroValue2
 t3:=Tryz.underlying3
 a3:=Tryz.isAgg3
 z3:=Tryz.sizeOf3
 v3:=Tryz.zeroValue3
 t4:=Tryz.underlying4
 a4:=Tryz.isAgg4
 z4:=Tryz.sizeOf4
 v4:=Tryz.zeroValue4
 t5:=Tryz.underlying5
 a5:=Tryz.isAgg5
 z5:=Tryz.sizeOf5
 v5:=Tryz.zeroValue5
 t9:=Tryz.underlying9
 a9:=Tryz.isAgg9
 z9:=Tryz.sizeOf9
 v9:=Tryz.zeroValue9
 t20:=Tryz.underlying20
 a20:=Tryz.isAgg20
 z20:=Tryz.sizeOf20
 v20:=Tryz.zeroValue20
 t21:=Tryz.underlying21
 a21:=Tryz.isAgg21
 z21:=Tryz.sizeOf21
 v21:=Tryz.zeroValue21
 t37:=Tryz.underlying138
 a37:=Tryz.isAgg138
 z37:=Tryz.sizeOf138
 v37:=Tryz.zeroValue138
 t46:=Tryz.underlying55
 a46:=Tryz.isAgg55
 z46:=Tryz.sizeOf55
 v46:=Tryz.zeroValue55
 t51:=Tryz.underlying91
 a51:=Tryz.isAgg91
 z51:=Tryz.sizeOf91
 v51:=Tryz.zeroValue91
 t53:=Tryz.underlying214
 a53:=Tryz.isAgg214
 z53:=Tryz.sizeOf214
 v53:=Tryz.zeroValue214
 t75:=Tryz.underlying102
 a75:=Tryz.isAgg102
 z75:=Tryz.sizeOf102
 v75:=Tryz.zeroValue102
 t76:=Tryz.underlying154
 a76:=Tryz.isAgg154
 z76:=Tryz.sizeOf154
 v76:=Tryz.zeroValue154
 t85:=Tryz.underlying223
 a85:=Tryz.isAgg223
 z85:=Tryz.sizeOf223
 v85:=Tryz.zeroValue223
 t127:=Tryz.underlying269
 a127:=Tryz.isAgg269
 z127:=Tryz.sizeOf269
 v127:=Tryz.zeroValue269
 t143:=Tryz.underlying270
 a143:=Tryz.isAgg270
 z143:=Tryz.sizeOf270
 v143:=Tryz.zeroValue270
 t145:=Tryz.underlying272
 a145:=Tryz.isAgg272
 z145:=Tryz.sizeOf272
 v145:=Tryz.zeroValue272
 t167:=Tryz.underlying222
 a167:=Tryz.isAgg222
 z167:=Tryz.sizeOf222
 v167:=Tryz.zeroValue222
 t168:=Tryz.underlying225
 a168:=Tryz.isAgg225
 z168:=Tryz.sizeOf225
 v168:=Tryz.zeroValue225
 t171:=Tryz.underlying258
 a171:=Tryz.isAgg258
 z171:=Tryz.sizeOf258
 v171:=Tryz.zeroValue258
 t173:=Tryz.underlying261
 a173:=Tryz.isAgg261
 z173:=Tryz.sizeOf261
 v173:=Tryz.zeroValue261
 t175:=Tryz.underlying252
 a175:=Tryz.isAgg252
 z175:=Tryz.sizeOf252
 v175:=Tryz.zeroValue252
 t210:=Tryz.underlying256
 a210:=Tryz.isAgg256
 z210:=Tryz.sizeOf256
 v210:=Tryz.zeroValue256
 t212:=Tryz.underlying274
 a212:=Tryz.isAgg274
 z212:=Tryz.sizeOf274
 v212:=Tryz.zeroValue274
 t213:=Tryz.underlying275
 a213:=Tryz.isAgg275
 z213:=Tryz.sizeOf275
 t232:=Tryz.underlying284
 a232:=Tryz.isAgg284
 z232:=Tryz.sizeOf284
 v232:=Tryz.zeroValue284
 t233:=Tryz.underlying285
 a233:=Tryz.isAgg285
 z233:=Tryz.sizeOf285
 v233:=Tryz.zeroValue285
 g15:=by kernel_rfl
 g16:=by kernel_rfl
 g17:=by kernel_rfl
 g18:=by kernel_rfl
 g19:=by kernel_rfl
 t80:=Tryz.underlying37
 a80:=Tryz.isAgg37
 z80:=Tryz.sizeOf37
 v80:=Tryz.zeroValue37
 i0:=by kernel_rfl
 i2:=by kernel_rfl
 i3:=by kernel_rfl
 i4:=by kernel_rfl
 i5:=by kernel_rfl
 i9:=by kernel_rfl
 i20:=by kernel_rfl
 i21:=by kernel_rfl
 i37:=by kernel_rfl
 i46:=by kernel_rfl
 i51:=by kernel_rfl
 i53:=by kernel_rfl
 i75:=by kernel_rfl
 i76:=by kernel_rfl
 i80:=by kernel_rfl
 i85:=by kernel_rfl
 i127:=by kernel_rfl
 i143:=by kernel_rfl
 i145:=by kernel_rfl
 i167:=by kernel_rfl
 i168:=by kernel_rfl
 i171:=by kernel_rfl
 i173:=by kernel_rfl
 i175:=by kernel_rfl
 i210:=by kernel_rfl
 i212:=by kernel_rfl
 i232:=by kernel_rfl
 i233:=by kernel_rfl
 m15:=by kernel_rfl
 m16:=by kernel_rfl
 m17:=by kernel_rfl
 m18:=by kernel_rfl
 m19:=by kernel_rfl
 c0:=by kernel_rfl
 c2:=by kernel_rfl
 c3:=by kernel_rfl
 c4:=by kernel_rfl
 c5:=by kernel_rfl
 c9:=by kernel_rfl
 c20:=by kernel_rfl
 c21:=by kernel_rfl
 c37:=by kernel_rfl
 c46:=by kernel_rfl
 c51:=by kernel_rfl
 c53:=by kernel_rfl
 c75:=by kernel_rfl
 c76:=by kernel_rfl
 c80:=by kernel_rfl
 c85:=by kernel_rfl
 c127:=by kernel_rfl
 c143:=by kernel_rfl
 c145:=by kernel_rfl
 c167:=by kernel_rfl
 c168:=by kernel_rfl
 c171:=by kernel_rfl
 c173:=by kernel_rfl
 c175:=by kernel_rfl
 c210:=by kernel_rfl
 c212:=by kernel_rfl
 c213:=by kernel_rfl
 c232:=by kernel_rfl
 c233:=by kernel_rfl}
open Go.RowKit in
theorem Tryz.strconv_Atoi_ok (s:ByteArray) (hmax:s.size<=9223372036854775806) (v:Int) (h:Lib.atoiAll s.data.toList=.ok v) (w:World) :
 Calls Tryz.prog 100 #[.string s] w fun e w'=>e=.returned (.tuple #[.int .i64 v,.nilIface])/\(w'=w\/∃ t,w'=Lib.bytesWorld w 5 t):=Any.strconv_Atoi_ok Tryz.laysC172 s hmax v h w
open Go.RowKit in
theorem Tryz.strconv_Atoi_syntax_var (s:ByteArray) (hlim:s.size<=281474976710656) (h:Lib.atoiAll s.data.toList=Go.Lib.NumEnd.syntax) (tp:TypeId) (p:Value) (w:World) (hvar:w.var? Tryz.prog "strconv.ErrSyntax"=some #[.iface tp p]) :
 Calls Tryz.prog 100 #[.string s] w fun e w'=>∃ N,e=.returned (.tuple #[.int .i64 0,.iface 225 (.pointer (some ⟨N,0,none⟩))])/\w.heap.size<=N/\w'.heap[N]?=some (.cells #[.string ⟨#[65,116,111,105]⟩,.string s,.iface tp p] 256 (0,0))/\Below w.heap.size w w':=Any.strconv_Atoi_syntax_var Tryz.laysC172 s hlim h tp p w hvar
open Go.RowKit in
theorem Tryz.strconv_Atoi_range_var (s:ByteArray) (hlim:s.size<=281474976710656) (h:Lib.atoiAll s.data.toList=.range) (tp:TypeId) (p:Value) (w:World) (hvar:w.var? Tryz.prog "strconv.ErrRange"=some #[.iface tp p]) :
 Calls Tryz.prog 100 #[.string s] w fun e w'=>∃ N,e=.returned (.tuple #[.int .i64 (Lib.atoiSat s.data.toList),.iface 225 (.pointer (some ⟨N,0,none⟩))])/\w.heap.size<=N/\w'.heap[N]?=some (.cells #[.string ⟨#[65,116,111,105]⟩,.string s,.iface tp p] 256 (0,0))/\Below w.heap.size w w':=Any.strconv_Atoi_range_var Tryz.laysC172 s hlim h tp p w hvar
def Tryz.lays145_ren:Go.Shelf.Ren:=⟨fun|145=>64|220=>111|219=>158|217=>198|225=>199|224=>200|267=>201|266=>220|314=>221|n=>n,fun|9=>9|4=>4|59=>115|3=>3|5=>5|46=>55|146=>212|51=>91|n=>n,fun|1=>1|n=>n⟩
theorem Tryz.lays145:Go.Proofs.Lays.n145 Tryz.prog Tryz.lays145_ren:={
 mixed:=by kernel_rfl
 f145:=Tryz.func64.trans (congrArg some (by kernel_rfl))
 f217:=Tryz.func198.trans (congrArg some (by kernel_rfl))
 f219:=Tryz.func158.trans (congrArg some (by kernel_rfl))
 f220:=Tryz.func111.trans (congrArg some (by kernel_rfl))
 f224:=Tryz.func200.trans (congrArg some (by kernel_rfl))
 f225:=Tryz.func199.trans (congrArg some (by kernel_rfl))
 f266:=Tryz.func220.trans (congrArg some (by kernel_rfl))
 f267:=Tryz.func201.trans (congrArg some (by kernel_rfl))
 f314:=Tryz.func221.trans (congrArg some (by kernel_rfl))
 t3:=Tryz.underlying3
 a3:=Tryz.isAgg3
 z3:=Tryz.sizeOf3
 v3:=Tryz.zeroValue3
 t4:=Tryz.underlying4
 a4:=Tryz.isAgg4
 z4:=Tryz.sizeOf4
 v4:=Tryz.zeroValue4
 t5:=Tryz.underlying5
 a5:=Tryz.isAgg5
 z5:=Tryz.sizeOf5
 v5:=Tryz.zeroValue5
 t9:=Tryz.underlying9
 a9:=Tryz.isAgg9
 z9:=Tryz.sizeOf9
 v9:=Tryz.zeroValue9
 t46:=Tryz.underlying55
 a46:=Tryz.isAgg55
 z46:=Tryz.sizeOf55
 v46:=Tryz.zeroValue55
 t51:=Tryz.underlying91
 a51:=Tryz.isAgg91
 z51:=Tryz.sizeOf91
 v51:=Tryz.zeroValue91
 t59:=Tryz.underlying115
 a59:=Tryz.isAgg115
 z59:=Tryz.sizeOf115
 v59:=Tryz.zeroValue115
 t146:=Tryz.underlying212
 a146:=Tryz.isAgg212
 z146:=Tryz.sizeOf212
 v146:=Tryz.zeroValue212
 g1:=by kernel_rfl}
open Go.RowKit Go.Lib in
theorem Tryz.strings_Cut (s sep:ByteArray) (m:Int) (w:World) (hs:s.size<4294967281) (hm:w.cell? ⟨1,0,none⟩=some (.int .i64 m)) :
 Calls Tryz.prog 64 #[.string s,.string sep] w fun e w'=>e=.returned (.tuple #[.string ⟨(Lib.cut s.data.toList sep.data.toList).1.toArray⟩,.string ⟨(Lib.cut s.data.toList sep.data.toList).2.1.toArray⟩,.bool (Lib.cut s.data.toList sep.data.toList).2.2])/\∃ n,w'=w.drewN n:=Any.strings_Cut Tryz.lays145 s sep m w hs hm
def Tryz.lays102_ren:Go.Shelf.Ren:=⟨fun|102=>155|209=>196|207=>217|n=>n,fun|9=>9|4=>4|3=>3|n=>n,fun|n=>n⟩
theorem Tryz.lays102:Go.Proofs.Lays.n102 Tryz.prog Tryz.lays102_ren:={
 mixed:=by kernel_rfl
 f102:=Tryz.func155.trans (congrArg some (by kernel_rfl))
 f207:=Tryz.func217.trans (congrArg some (by kernel_rfl))
 f209:=Tryz.func196.trans (congrArg some (by kernel_rfl))
 t3:=Tryz.underlying3
 a3:=Tryz.isAgg3
 z3:=Tryz.sizeOf3
 v3:=Tryz.zeroValue3
 t4:=Tryz.underlying4
 a4:=Tryz.isAgg4
 z4:=Tryz.sizeOf4
 v4:=Tryz.zeroValue4
 t9:=Tryz.underlying9
 a9:=Tryz.isAgg9
 z9:=Tryz.sizeOf9
 v9:=Tryz.zeroValue9}
open Go.RowKit Go.Lib in
theorem Tryz.strings_TrimSuffix (s p:ByteArray) (w:World) (hs:s.size<=9223372036854775807) :
 Calls Tryz.prog 155 #[.string s,.string p] w fun e w'=>e=.returned (.string ⟨(Lib.trimSuffix s.data.toList p.data.toList).toArray⟩)/\w'=w:=Any.strings_TrimSuffix Tryz.lays102 s p w hs
def Tryz.lays146_ren:Go.Shelf.Ren:=⟨fun|146=>98|221=>147|268=>184|138=>185|143=>186|195=>207|197=>208|218=>209|219=>158|260=>222|217=>198|225=>199|224=>200|267=>201|266=>220|314=>221|n=>n,fun|9=>9|31=>23|3=>3|4=>4|0=>0|105=>250|21=>21|5=>5|46=>55|119=>279|139=>282|138=>281|146=>212|51=>91|n=>n,fun|1=>1|3=>5|4=>6|n=>n⟩
theorem Tryz.lays146:Go.Proofs.Lays.n146 Tryz.prog Tryz.lays146_ren:={
 mixed:=by kernel_rfl
 f138:=Tryz.func185.trans (congrArg some (by kernel_rfl))
 f143:=Tryz.func186.trans (congrArg some (by kernel_rfl))
 f146:=Tryz.func98.trans (congrArg some (by kernel_rfl))
 f195:=Tryz.func207.trans (congrArg some (by kernel_rfl))
 f197:=Tryz.func208.trans (congrArg some (by kernel_rfl))
 f217:=Tryz.func198.trans (congrArg some (by kernel_rfl))
 f218:=Tryz.func209.trans (congrArg some (by kernel_rfl))
 f219:=Tryz.func158.trans (congrArg some (by kernel_rfl))
 f221:=Tryz.func147.trans (congrArg some (by kernel_rfl))
 f224:=Tryz.func200.trans (congrArg some (by kernel_rfl))
 f225:=Tryz.func199.trans (congrArg some (by kernel_rfl))
 f260:=Tryz.func222.trans (congrArg some (by kernel_rfl))
 f266:=Tryz.func220.trans (congrArg some (by kernel_rfl))
 f267:=Tryz.func201.trans (congrArg some (by kernel_rfl))
 f268:=Tryz.func184.trans (congrArg some (by kernel_rfl))
 f314:=Tryz.func221.trans (congrArg some (by kernel_rfl))
 t0:=Tryz.underlying0
 a0:=Tryz.isAgg0
 z0:=Tryz.sizeOf0
 v0:=Tryz.zeroValue0
 t3:=Tryz.underlying3
 a3:=Tryz.isAgg3
 z3:=Tryz.sizeOf3
 v3:=Tryz.zeroValue3
 t4:=Tryz.underlying4
 a4:=Tryz.isAgg4
 z4:=Tryz.sizeOf4
 v4:=Tryz.zeroValue4
 t5:=Tryz.underlying5
 a5:=Tryz.isAgg5
 z5:=Tryz.sizeOf5
 v5:=Tryz.zeroValue5
 t9:=Tryz.underlying9
 a9:=Tryz.isAgg9
 z9:=Tryz.sizeOf9
 v9:=Tryz.zeroValue9
 t21:=Tryz.underlying21
 a21:=Tryz.isAgg21
 z21:=Tryz.sizeOf21
 v21:=Tryz.zeroValue21
 t31:=Tryz.underlying23
 a31:=Tryz.isAgg23
 z31:=Tryz.sizeOf23
 v31:=Tryz.zeroValue23
 t46:=Tryz.underlying55
 a46:=Tryz.isAgg55
 z46:=Tryz.sizeOf55
 v46:=Tryz.zeroValue55
 t51:=Tryz.underlying91
 a51:=Tryz.isAgg91
 z51:=Tryz.sizeOf91
 v51:=Tryz.zeroValue91
 t105:=Tryz.underlying250
 a105:=Tryz.isAgg250
 z105:=Tryz.sizeOf250
 v105:=Tryz.zeroValue250
 t119:=Tryz.underlying279
 a119:=Tryz.isAgg279
 z119:=Tryz.sizeOf279
 t138:=Tryz.underlying281
 a138:=Tryz.isAgg281
 z138:=Tryz.sizeOf281
 v138:=Tryz.zeroValue281
 t139:=Tryz.underlying282
 a139:=Tryz.isAgg282
 z139:=Tryz.sizeOf282
 v139:=Tryz.zeroValue282
 t146:=Tryz.underlying212
 a146:=Tryz.isAgg212
 z146:=Tryz.sizeOf212
 v146:=Tryz.zeroValue212
 g1:=by kernel_rfl
 g3:=by kernel_rfl
 g4:=by kernel_rfl}
open Go.RowKit Go.Lib in
theorem Tryz.strings_Split (s sep:ByteArray) (m:Int) (w:World) (hs:s.size<4294967281) (hm:w.cell? ⟨1,0,none⟩=some (.int .i64 m)) (h1:1<=sep.size) :
 Calls Tryz.prog 98 #[.string s,.string sep] w fun e w' =>
  e=.returned (.slice (some ⟨w.heap.size,0,none⟩) (Lib.countB s sep+1) (Lib.countB s sep+1))/\w'=w.alloc (.cells ((Lib.splitB sep 0 (Lib.countB s sep) s).map Value.string).toArray 9):=Any.strings_Split Tryz.lays146 (by kernel_rfl) s sep m w hs hm h1
end Go.Proofs
namespace Go.Proofs.YtekfodeknpnkbaaGreatDoor
open Go.RowKit Go.VS
theorem zER {w w':World} (h:Below w.heap.size w w'):Keep (fun _=>False) w w':=⟨h.os,h.tape,h.output,h.size,fun k hk _=>h.block k hk⟩
theorem zBE {P:Program} {f:FuncId} {ad:List AD} {pre:TupA ad->Prop} {post:TupA ad->Out} (hc:zA5 P f) (h1:∀ x,(post x).left=[]) (h2:∀ x,(post x).objs=[])
 (h:∀ (C:Ctx) (γ:Gam) (x:TupA ad) (vs:List Value),pre x->Entry C γ P ad x vs->Calls P f vs.toArray C.w0 fun e w'=>∃ us,e=.returned (zGp us)/\zCt C γ w' (post x).res [] [] us/\Keep (fun _=>False) C.w0 w'):FnSpec P f ⟨ad,pre,post⟩:=by
 refine ⟨hc,fun C γ x vs hpre hen=>(h C γ x vs hpre hen).mono fun e w' ⟨us,he,hr,hk⟩=>⟨_,γ,he,⟨⟨[],[],us,rfl,hr,?_,?_⟩,fun p hp=>?_,fun p hp=>?_,fun k l hl=>aw (hen.ownlt k l hl) hk.size⟩,⟨hk.os,hk.tape,hk.output,hk.size,fun b hb _=>hk.block b hb (fun h=>h)⟩⟩⟩
 ·show (([]:List Nat)++List.map Prod.fst (post x).left).Nodup
  rw [h1]; exact List.nodup_nil
 ·show (([]:List Nat)++List.map Prod.fst (post x).objs).Nodup
  rw [h2]; exact List.nodup_nil
 ·have hp':p∈(post x).left:=hp
  rw [h1] at hp'; cases hp'
 ·have hp':p∈(post x).objs:=hp
  rw [h2] at hp'; cases hp'
def itoaV (n:Int):ByteArray:=⟨(Lib.itoa n).toArray⟩
def trimV (b p:ByteArray):ByteArray:=⟨(Lib.trimSuffix b.data.toList p.data.toList).toArray⟩
def cut1 (b p:ByteArray):ByteArray:=⟨(Lib.cut b.data.toList p.data.toList).1.toArray⟩
def cut2 (b p:ByteArray):ByteArray:=⟨(Lib.cut b.data.toList p.data.toList).2.1.toArray⟩
def cutB (b p:ByteArray):Bool:=(Lib.cut b.data.toList p.data.toList).2.2
def zAx (b p:ByteArray):List ByteArray:=Lib.splitB p 0 (Lib.countB b p) b
@[push_cast] def zVO:Con:=⟨[.dat .int],fun (x:Int×Unit)=>InR x.1,fun (x:Int×Unit)=>{res:=[.val .str (itoaV x.1)]}⟩
theorem zKQ:FnSpec Tryz.prog 101 zVO:=by
 refine zBE ⟨_,Tryz.func101,by kernel_rfl,rfl⟩ (fun _=>rfl) (fun _=>rfl) fun C γ x vs hpre hen=>?_
 have hg:=hen.ds.2.gd
 rw [hen.P] at hg
 have hargs:=hen.args
 obtain ⟨(n:Int),_⟩:=x
 obtain ⟨v0,_,rfl,h0,rfl⟩:=hargs
 obtain rfl:v0=.int .i64 n:=zAC h0
 obtain ⟨g,hgn⟩:∃ g, Tryz.prog.globalNamed "internal/strconv.uint64pow10"=some g:=cN.1 kr
 have hn:InR n:=hpre
 unfold InR at hn
 refine (Tryz.strconv_Itoa n (by omega) (by omega) C.w0 (hg.pow g hgn)).mono ?_
 rintro e w' ⟨rfl,k,os,rfl⟩
 exact ⟨[_],rfl,⟨_,[],rfl,⟨[.string ⟨(Lib.itoa n).toArray⟩],rfl,rfl⟩,rfl,rfl,rfl⟩,zER (Lib.below_grow _ _ (ap _) k os)⟩
def zDr (s:ByteArray):Bool:=match Lib.atoiAll s.data.toList with
 | .ok _=>true
 | _=>false
def atoiV (s:ByteArray):Int:=match Lib.atoiAll s.data.toList with
 | .ok v=>v
 | .range=>Lib.atoiSat s.data.toList
 | _=>0
@[push_cast] def zVc:Con:=⟨[.dat .str],fun (x:ByteArray×Unit)=>x.1.size<=1000000,fun (x:ByteArray×Unit)=>{res:=[.val .int (atoiV x.1),if zDr x.1=true then .raw .nilIface else .ifc]}⟩
theorem zKq:FnSpec Tryz.prog 100 zVc:=by
 refine zBE ⟨_,Tryz.func100,by kernel_rfl,rfl⟩ (fun _=>rfl) (fun _=>rfl) fun C γ x vs hpre hen=>?_
 have hg:=hen.ds.2.gd
 rw [hen.P] at hg
 have hargs:=hen.args
 obtain ⟨(t:ByteArray),_⟩:=x
 obtain ⟨v0,_,rfl,h0,rfl⟩:=hargs
 obtain rfl:v0=.string t:=zBJ h0
 have hn:t.size<=1000000:=hpre
 show Calls _ _ #[.string t] C.w0 _
 cases h:Lib.atoiAll t.data.toList with
 | ok v =>
  have e1:atoiV t=v:=by simp only [atoiV,h]
  have e2:zDr t=true:=by simp only [zDr,h]
  refine (Tryz.strconv_Atoi_ok t (by omega) v h C.w0).mono ?_
  rintro e w' ⟨rfl,hw⟩
  refine ⟨[_,_],rfl,?_,?_⟩
  ·simp only [e1,e2,if_true]
   exact ⟨_,_,rfl,⟨[.int .i64 v],rfl,rfl⟩,_,rfl,rfl,rfl,rfl⟩
  ·rcases hw with rfl|⟨t',rfl⟩
   ·exact Keep.refl _ _
   ·exact zER (Go.Joins.below_bytesWorld _ _ _ _ (ap _))
 | range =>
  have e1:atoiV t=Lib.atoiSat t.data.toList:=by simp only [atoiV,h]
  have e2:zDr t=false:=by simp only [zDr,h]
  obtain ⟨g,hgn⟩:∃ g, Tryz.prog.globalNamed "strconv.ErrRange"=some g:=cN.1 kr
  obtain ⟨tp,p,hv⟩:=hg.rng g hgn
  refine (Tryz.strconv_Atoi_range_var t (by omega) h tp p C.w0 hv).mono ?_
  rintro e w' ⟨N,rfl,_,_,hb⟩
  refine ⟨[_,_],rfl,?_,zER hb⟩
  simp only [e1,e2,aQ,if_false]
  exact ⟨_,_,rfl,⟨[.int .i64 _],rfl,rfl⟩,_,_,_,rfl,rfl,rfl,rfl⟩
 | _ =>
  have e1:atoiV t=0:=by simp only [atoiV,h]
  have e2:zDr t=false:=by simp only [zDr,h]
  obtain ⟨g,hgn⟩:∃ g, Tryz.prog.globalNamed "strconv.ErrSyntax"=some g:=cN.1 kr
  obtain ⟨tp,p,hv⟩:=hg.syn g hgn
  refine (Tryz.strconv_Atoi_syntax_var t (by omega) h tp p C.w0 hv).mono ?_
  rintro e w' ⟨N,rfl,_,_,hb⟩
  refine ⟨[_,_],rfl,?_,zER hb⟩
  simp only [e1,e2,aQ,if_false]
  exact ⟨_,_,rfl,⟨[.int .i64 0],rfl,rfl⟩,_,_,_,rfl,rfl,rfl,rfl⟩
@[push_cast] def zWq:Con:=⟨[.dat .str,.dat .str],fun (x:ByteArray×ByteArray×Unit)=>x.1.size<=1000000,fun (x:ByteArray×ByteArray×Unit)=>{res:=[.val .str (trimV x.1 x.2.1)]}⟩
theorem zSL:FnSpec Tryz.prog 155 zWq:=by
 refine zBE ⟨_,Tryz.func155,by kernel_rfl,rfl⟩ (fun _=>rfl) (fun _=>rfl) fun C γ x vs hpre hen=>?_
 have hargs:=hen.args
 obtain ⟨(t:ByteArray),(u:ByteArray),_⟩:=x
 obtain ⟨v0,_,rfl,h0,v1,_,rfl,h1,rfl⟩:=hargs
 obtain rfl:v0=.string t:=zBJ h0
 obtain rfl:v1=.string u:=zBJ h1
 have hn:t.size<=1000000:=hpre
 refine (Tryz.strings_TrimSuffix t u C.w0 (by omega)).mono ?_
 rintro e w' ⟨rfl,rfl⟩
 exact ⟨[_],rfl,⟨_,[],rfl,⟨[.string _],rfl,rfl⟩,rfl,rfl,rfl⟩,Keep.refl _ _⟩
@[push_cast] def zWU:Con:=⟨[.dat .str,.dat .str],fun (x:ByteArray×ByteArray×Unit)=>x.1.size<=1000000,fun (x:ByteArray×ByteArray×Unit) =>
 {res:=[.val .str (cut1 x.1 x.2.1),.val .str (cut2 x.1 x.2.1),.val .bool (cutB x.1 x.2.1)]}⟩
theorem zTa:FnSpec Tryz.prog 64 zWU:=by
 refine zBE ⟨_,Tryz.func64,by kernel_rfl,rfl⟩ (fun _=>rfl) (fun _=>rfl) fun C γ x vs hpre hen=>?_
 have hg:=hen.ds.2.gd
 rw [hen.P] at hg
 have hargs:=hen.args
 obtain ⟨(t:ByteArray),(u:ByteArray),_⟩:=x
 obtain ⟨v0,_,rfl,h0,v1,_,rfl,h1,rfl⟩:=hargs
 obtain rfl:v0=.string t:=zBJ h0
 obtain rfl:v1=.string u:=zBJ h1
 have hn:t.size<=1000000:=hpre
 obtain ⟨m,hm⟩:=hg.max 1 kr
 refine (Tryz.strings_Cut t u m C.w0 (by omega) hm).mono ?_
 rintro e w' ⟨rfl,n,rfl⟩
 exact ⟨[_,_,_],rfl,⟨_,_,rfl,⟨[.string _],rfl,rfl⟩,_,_,rfl,⟨[.string _],rfl,rfl⟩,_,_,rfl,⟨[.bool _],rfl,rfl⟩,rfl,rfl,rfl⟩,⟨rfl,rfl,rfl,ap _,fun _ _ _=>rfl⟩⟩
@[push_cast] def zUq:Con:=⟨[.dat .str,.dat .str],fun (x:ByteArray×ByteArray×Unit)=>x.1.size<=1000000/\1<=x.2.1.size,fun (x:ByteArray×ByteArray×Unit) =>
 {res:=[.val (.sl .str) (zAx x.1 x.2.1)]}⟩
theorem zJe:FnSpec Tryz.prog 98 zUq:=by
 refine zBE ⟨_,Tryz.func98,by kernel_rfl,rfl⟩ (fun _=>rfl) (fun _=>rfl) fun C γ x vs hpre hen=>?_
 have hg:=hen.ds.2.gd
 rw [hen.P] at hg
 have hlt:=hen.ownlt
 have hargs:=hen.args
 obtain ⟨(t:ByteArray),(u:ByteArray),_⟩:=x
 obtain ⟨v0,_,rfl,h0,v1,_,rfl,h1,rfl⟩:=hargs
 obtain rfl:v0=.string t:=zBJ h0
 obtain rfl:v1=.string u:=zBJ h1
 obtain ⟨hn,hu⟩:=hpre
 dsimp only at hn hu
 obtain ⟨m,hm⟩:=hg.max 1 kr
 refine (Tryz.strings_Split t u m C.w0 (by omega) hm hu).mono ?_
 rintro e w' ⟨rfl,rfl⟩
 refine ⟨[_],rfl,⟨_,[],rfl,?_,rfl,rfl,rfl⟩,⟨rfl,rfl,rfl,by simp only [World.alloc,Array.size_push]; omega,fun k hk _=>by simp only [World.alloc,b7]; rw [ae (by omega)]⟩⟩
 have hlen:(Lib.splitB u 0 (Lib.countB t u) t).length=Lib.countB t u+1:=Lib.splitB_all u hu 0 _ t rfl
 have hcl:Lib.countB t u<=t.size:=Lib.countB_le u hu _ t (ap _)
 have hfm:(Lib.splitB u 0 (Lib.countB t u) t).flatMap (Sh.str).cells=(Lib.splitB u 0 (Lib.countB t u) t).map Value.string:=by
  generalize Lib.splitB u 0 (Lib.countB t u) t=m
  induction m with
  | nil=>rfl
  | cons x m ih=>simp only [cQ,bn,ih]; rfl
 refine ⟨[.slice (some ⟨C.w0.heap.size,0,none⟩) _ _],zA9 (e:=9) (sh:=.str) rfl ?_ (fun g hg=>?_),rfl⟩
 ·show World.ownsRow _ 0 _ 1 _ (Lib.splitB u 0 (Lib.countB t u) t).length ((Lib.splitB u 0 (Lib.countB t u) t).flatMap (Sh.str).cells)
  rw [hfm,hlen]
  have hheap:(C.w0.alloc (.cells ((Lib.splitB u 0 (Lib.countB t u) t).map Value.string).toArray 9)).heap[C.w0.heap.size]?=some (.cells ((Lib.splitB u 0 (Lib.countB t u) t).map Value.string).toArray 9 (0,0)):=by simp only [World.alloc,b7,if_true]
  exact ⟨by simp [hlen],.inr ⟨C.w0.heap.size,Lib.countB t u+1,((Lib.splitB u 0 (Lib.countB t u) t).map Value.string).toArray,rfl,aq _,hheap,ap _,by unfold maxLen; omega,by simp [hlen],by rw [List.toList_toArray,aS (by simp [hlen])]⟩⟩
 ·simp only [Value.ownBlock,ac] at hg
  subst hg
  refine ⟨.inr (.inl (ap _)),?_⟩
  cases ho:γ.own C.w0.heap.size with
  | none=>rfl
  | some l=>have:=hlt _ l ho; omega
theorem zPY (b p:ByteArray):(trimV b p).size<=b.size:=by
 have h:=Lib.trimSuffix_le b.data.toList p.data.toList
 rw [Lib.size_eq b]
 show (Lib.trimSuffix b.data.toList p.data.toList).toArray.size<=_
 rw [bM]
 exact h
theorem zQN (b p:ByteArray):(cut1 b p).size<=b.size:=by
 rw [Lib.size_eq b]
 show (Lib.cut b.data.toList p.data.toList).1.toArray.size<=_
 rw [bM]
 unfold Lib.cut
 split
 ·rw [aU]; omega
 ·exact ap _
theorem zJb (p:ByteArray):∀ (k:Nat) (b:ByteArray),∀ x∈Lib.splitB p 0 k b,x.size<=b.size
 | 0,b,x,h=>by
  rw [Lib.splitB_zero,aX] at h
  rw [h]; exact ap _
 | k+1,b,x,h=>by
  by_cases hi:Lib.indexB b p = -1
  ·rw [Lib.splitB_miss p 0 _ b hi,aX] at h
   rw [h]; exact ap _
  ·have h0 : -1<=Lib.indexB b p:=Lib.index_ge b.data.toList p.data.toList
   obtain ⟨i,hi2⟩:∃ i:Nat,Lib.indexB b p=i:=⟨(Lib.indexB b p).toNat,by omega⟩
   rw [Lib.splitB_hit p 0 k b i hi2] at h
   rcases aI.1 h with rfl|h
   ·rw [cH]; omega
   ·have:=zJb p k _ x h
    rw [cH] at this
    omega
theorem zJd (b p:ByteArray):∀ x∈zAx b p,x.size<=b.size:=zJb p _ b
theorem zE3 (b p:ByteArray) (h:1<=p.size):(zAx b p).length=Lib.countB b p+1:=Lib.splitB_all p h 0 _ b rfl
theorem zJc (b p:ByteArray) (h:1<=p.size):(zAx b p).length<=b.size+1:=by
 rw [zE3 b p h]
 have:=Lib.countB_le p h _ b (ap _)
 omega
theorem zEQ {n:Int} (h:InR n):(itoaV n).size<=21:=by
 unfold InR at h
 have:=Lib.itoa_length_le n (by omega) (by omega)
 show (Lib.itoa n).toArray.size<=_
 rw [bM]; exact this
end Go.Proofs.YtekfodeknpnkbaaGreatDoor
namespace Go.Proofs.YtekfodeknpnkbaaGreatDoor
open Go.RowKit Go.VS
def chgE (l:List Int) (i n y:Int):Int:=if (l.length:Int)<=i then 4 else if n=0 then 1 else if 30<l.getD i.toNat 0+y then 3 else if l.getD i.toNat 0+y<0 then 9 else 0
def chgL (l:List Int) (i n y:Int):List Int:=if chgE l i n y=0 then l.set i.toNat (l.getD i.toNat 0+y) else l
structure ChgPre (rc:RC) (i y:Int):Prop where
 hrc:rc=.flat 3 .int (flatI rc)
 len:(flatI rc).length<=1000
 at':∀ k,k<(flatI rc).length->0<=(flatI rc).getD k 0/\(flatI rc).getD k 0<=30
 i:0<=i/\i<=99999
 y : -99999<=y/\y<=99999
@[push_cast] def zQz:Con:=⟨[.lend,.dat .int,.dat .int,.dat .int],fun (x:RC×Int×Int×Int×Unit)=>ChgPre x.1 x.2.1 x.2.2.2.1,
 fun (x:RC×Int×Int×Int×Unit)=>Out.mk [.val (.err 147) (chgE (flatI x.1) x.2.1 x.2.2.1 x.2.2.2.1)] [(0,.flat 3 .int (chgL (flatI x.1) x.2.1 x.2.2.1 x.2.2.2.1))] []⟩
theorem zS5:FnSpec Tryz.prog 104 zQz:=by
 refine FnSpec.of_tri' (E:=know [] [] [] []) (zAl all_nil all_nil all_nil) Tryz.func104 rfl rfl kr ?_
 intro C x hE hnl hfit hpre
 simp only [Tryz.ntmps104,Tryz.results104,maxLen,seval,push_cast] at hnl hfit hpre ⊢
 obtain ⟨(rc:RC),(i:Int),(n:Int),(y:Int),_⟩:=x
 dsimp only at hfit hpre ⊢
 obtain ⟨hrc,hlen,hat,hi,hy⟩:=hpre
 generalize flatI rc=l at *
 subst hrc
 by_cases h1:(l.length:Int)<=i
 ·have e1:chgE l i n y=4:=ah h1
  have e2:chgL l i n y=l:=by rw [chgL,e1]; rfl
  replace hnl:=aa hnl (aa e1 e2)
  exact auC
 have hk:=hat i.toNat (by omega)
 by_cases h2:n=0
 ·have e1:chgE l i n y=1:=by rw [chgE,ae h1,ah h2]
  have e2:chgL l i n y=l:=by rw [chgL,e1]; rfl
  replace hnl:=aa hnl (aa e1 e2)
  exact auC
 by_cases h3:30<l.getD i.toNat 0+y
 ·have e1:chgE l i n y=3:=by rw [chgE,ae h1,ae h2,ah h3]
  have e2:chgL l i n y=l:=by rw [chgL,e1]; rfl
  replace hnl:=aa hnl (aa e1 e2)
  exact auC
 by_cases h4:l.getD i.toNat 0+y<0
 ·have e1:chgE l i n y=9:=by rw [chgE,ae h1,ae h2,ae h3,ah h4]
  have e2:chgL l i n y=l:=by rw [chgL,e1]; rfl
  replace hnl:=aa hnl (aa e1 e2)
  exact auC
 have e1:chgE l i n y=0:=by rw [chgE,ae h1,ae h2,ae h3,ae h4]
 have e2:chgL l i n y=l.set i.toNat (l.getD i.toNat 0+y):=by rw [chgL,ah e1]
 replace hnl:=aa hnl (aa e1 e2)
 exact auC
end Go.Proofs.YtekfodeknpnkbaaGreatDoor
namespace Go.Proofs.YtekfodeknpnkbaaGreatDoor
open Go.RowKit Go.VS
def nlS:ByteArray:=⟨#[10]⟩
def spS:ByteArray:=⟨#[32]⟩
theorem zUX:({data:=#[10]}:ByteArray)=nlS:=rfl
theorem zOr:({data:=#[32]}:ByteArray)=spS:=rfl
def lastV (b:ByteArray):Int:=atoiV (cut1 ((zAx (trimV b nlS) nlS).getD (((zAx (trimV b nlS) nlS).length:Int) - 1).toNat ByteArray.empty) spS)
@[push_cast] def zVQ:Con:=⟨[.dat .str],fun (x:ByteArray×Unit)=>x.1.size<=100000,fun (x:ByteArray×Unit)=>{res:=[.val .int (lastV x.1)]}⟩
theorem zRl:FnSpec Tryz.prog 105 zVQ:=by
 refine FnSpec.of_tri' (E:=know _ [] [] []) (zAl (kc zSL (kc zJe (kc zTa (kc zKq all_nil)))) all_nil all_nil) Tryz.func105 rfl rfl kr ?_
 intro C x hE hnl hfit hpre
 simp only [Tryz.ntmps105,Tryz.results105,maxLen,seval,push_cast] at hnl hfit hpre ⊢
 obtain ⟨(b:ByteArray),_⟩:=x
 dsimp only at hfit hpre ⊢
 have h1:1<=nlS.size:=ap _
 have h2:=zPY b nlS
 have h3:=zE3 (trimV b nlS) nlS h1
 have h4:=zJd (trimV b nlS) nlS _ (zA0 ByteArray.empty (show (((zAx (trimV b nlS) nlS).length:Int) - 1).toNat<(zAx (trimV b nlS) nlS).length by omega))
 have h5:=zQN ((zAx (trimV b nlS) nlS).getD (((zAx (trimV b nlS) nlS).length:Int) - 1).toNat ByteArray.empty) spS
 have h6:=zJc (trimV b nlS) nlS h1
 replace hnl:=aa hnl (aa zUX zOr)
 cases hA:zDr (cut1 ((zAx (trimV b nlS) nlS).getD (((zAx (trimV b nlS) nlS).length:Int) - 1).toNat ByteArray.empty) spS) with
 | true =>
  replace hnl:=aa hnl hA
  repeat' (first|(refine goK (by assumption) ?_; iterate 4 (try clear hK K))|(refine zAb fun K hK=>?_)|((first|refine zAa hE rfl ?_|refine zAi ?_); simp +contextual only [hnl,↓kA,push_cast,seval,reduceCtorEq])|refine andS ?_|fail)
  rfl
 | false =>
  replace hnl:=aa hnl hA
  repeat' (first|(refine goK (by assumption) ?_; iterate 4 (try clear hK K))|(refine zAb fun K hK=>?_)|((first|refine zAa hE rfl ?_|refine zAi ?_); simp +contextual only [hnl,↓kA,push_cast,seval,reduceCtorEq])|refine andS ?_|fail)
  rfl
def textV (least:Int) (order:ByteArray):ByteArray:=itoaV least++spS++order
def zCs (book:ByteArray) (least:Int) (order:ByteArray):ByteArray:=book++itoaV (sumV (lastV book) (textV least order))++spS++textV least order++nlS
structure WrPre (book:ByteArray) (least:Int) (order:ByteArray):Prop where
 book:book.size<=100000
 least:InR least
 order:order.size<=1000
@[push_cast] def zE8:Con:=⟨[.dat .str,.dat .int,.dat .str],fun (x:ByteArray×Int×ByteArray×Unit)=>WrPre x.1 x.2.1 x.2.2.1,fun (x:ByteArray×Int×ByteArray×Unit)=>{res:=[.val .str (zCs x.1 x.2.1 x.2.2.1)]}⟩
theorem zB7 (a b:ByteArray):(a++b).size=a.size+b.size:=cM
theorem zLX:FnSpec Tryz.prog 56 zE8:=by
 refine FnSpec.of_tri' (E:=know _ [] [] []) (zAl (kc zKQ (kc zRl (kc zIQ all_nil))) all_nil all_nil) Tryz.func56 rfl rfl kr ?_
 intro C x hE hnl hfit hpre
 simp only [Tryz.ntmps56,Tryz.results56,maxLen,seval,push_cast] at hnl hfit hpre ⊢
 obtain ⟨(book:ByteArray),(least:Int),(order:ByteArray),_⟩:=x
 dsimp only at hfit hpre ⊢
 obtain ⟨hb1,hb2,hb3⟩:=hpre
 have h1:=zEQ hb2
 have h2:nlS.size=1:=rfl
 have h3:spS.size=1:=rfl
 have h4:(textV least order).size=(itoaV least).size+1+order.size:=by unfold textV; rw [zB7,zB7]; rfl
 have h5:=zDT (lastV book) (textV least order) (textV least order).size
 have h6:InR (sumV (lastV book) (textV least order)):=by unfold InR sumV; omega
 have h7:=zEQ h6
 have hT:itoaV least++spS++order=textV least order:=rfl
 have h8:(itoaV least++spS).size=(itoaV least).size+1:=zB7 _ _
 have h9:(book++itoaV (sumV (lastV book) (textV least order))).size=book.size+(itoaV (sumV (lastV book) (textV least order))).size:=zB7 _ _
 have h10:(book++itoaV (sumV (lastV book) (textV least order))++spS).size=book.size+(itoaV (sumV (lastV book) (textV least order))).size+1:=by rw [zB7,h9]; rfl
 have h11:(book++itoaV (sumV (lastV book) (textV least order))++spS++textV least order).size=book.size+(itoaV (sumV (lastV book) (textV least order))).size+1+(textV least order).size:=by rw [zB7,h10]
 have h12:book.size<=100000:=hb1
 replace hnl:=aa hnl (aa zUX (aa zOr (aa hT (aa h2 (aa h3 (aa h8 (aa h9 (aa h10 h11))))))))
 repeat' (first|(refine goK (by assumption) ?_; iterate 4 (try clear hK K))|(refine zAb fun K hK=>?_)|((first|refine zAa hE rfl ?_|refine zAi ?_); simp +contextual only [hnl,↓kA,push_cast,seval,reduceCtorEq])|refine andS ?_|fail)
 all_goals rfl
def numV (s:ByteArray) (most:Int):Bool:=zDr s && (decide (0<=atoiV s) && (decide (atoiV s<=most) && decide (itoaV (atoiV s)=s)))
end Go.Proofs.YtekfodeknpnkbaaGreatDoor
namespace Go.Proofs.YtekfodeknpnkbaaGreatDoor
open Go.RowKit Go.VS
def byteV (s:ByteArray) (k:Nat):Nat:=(s.data.toList.getD k 0).toNat
def wK (s:ByteArray):Nat->List ByteArray×Nat
 | 0=>([],0)
 | k+1=>if k=s.size\/byteV s k=32 then ((wK s k).1++[s.extract (wK s k).2 k],k+1) else wK s k
def zBk (s:ByteArray):List ByteArray:=(wK s (s.size+1)).1
theorem zG1 {s:ByteArray} {k:Nat} (h:k=s.size\/byteV s k=32):wK s (k+1)=((wK s k).1++[s.extract (wK s k).2 k],k+1):=ah h
theorem zIe {s:ByteArray} {k:Nat} (h:¬(k=s.size\/byteV s k=32)):wK s (k+1)=wK s k:=ae h
theorem wK_le (s:ByteArray):∀ k,(wK s k).2<=k/\(wK s k).1.length<=k
 | 0=>⟨ap _,ap _⟩
 | k+1=>by
  have h:=wK_le s k
  by_cases h1:k=s.size\/byteV s k=32
  ·rw [zG1 h1]
   exact ⟨ap _,by rw [aL]; simp; omega⟩
  ·rw [zIe h1]
   omega
theorem zJs (s:ByteArray):0<(zBk s).length:=by
 unfold zBk
 rw [zG1 (.inl rfl),aL]
 simp
@[push_cast] def zUE:Con:=⟨[.dat .str],fun (x:ByteArray×Unit)=>x.1.size<=100000,fun (x:ByteArray×Unit)=>{res:=[.val (.sl .str) (zBk x.1)]}⟩
theorem zP5:FnSpec Tryz.prog 106 zUE:=by
 refine FnSpec.of_tri' (E:=know [] [] [] []) (zAl all_nil all_nil all_nil) Tryz.func106 rfl rfl kr ?_
 intro C x hE hnl hfit hpre
 simp only [Tryz.ntmps106,Tryz.results106,maxLen,seval,push_cast] at hnl hfit hpre ⊢
 obtain ⟨(s:ByteArray),_⟩:=x
 dsimp only at hfit hpre ⊢
 repeat' (first|(refine goK (by assumption) ?_; iterate 4 (try clear hK K))|(refine zAb fun K hK=>?_)|(refine zAa hE rfl ?_; simp +contextual only [hnl,↓kA,push_cast,seval,reduceCtorEq])|refine zAc ?_|fail)
 refine zAk (fun k:Nat=>AS.of [(0,.one (.val .str s)),(3,.one (.ref 28)),(4,.I (wK s k).2),(5,.I k)] [(28,.flat 9 .str (wK s k).1)] []) (fun k=>k<=s.size+1) (fun k=>s.size+1 - k) 0 (aq _) ?_ ?_
 ·refine zAf ?_ ?_ ?_<;>simp only [push_cast,seval,reduceCtorEq]
  ·rfl
  ·first|omega|exact ⟨by omega,rfl⟩
 intro k hk K' hL
 have hle:=wK_le s k
 rcases ai s.size k with hks|hks
 ·obtain rfl:k=s.size+1:=by omega
  repeat' (first|(refine goK (by assumption) ?_; iterate 4 (try clear hK K))|(refine zAb fun K hK=>?_)|((first|refine zAa hE rfl ?_|refine zAi ?_); simp +contextual only [hnl,↓kA,push_cast,seval,reduceCtorEq])|(refine zAj ?_; simp only [thenQ,zAh,if_true,if_false,Nat.reduceEqDiff,reduceCtorEq])|(refine zAe (by rfl) (fun hb=>?_) (fun hb=>?_)<;>(try simp only [bq,reduceCtorEq] at hb)<;>(try omega))|fail)
  rfl
 ·by_cases h1:k=s.size
  ·subst h1
   have hw:=zG1 (s:=s) (k:=s.size) (.inl rfl)
   repeat' (first|(refine goK (by assumption) ?_; iterate 4 (try clear hK K))|(refine zAb fun K hK=>?_)|(refine zAa hE rfl ?_; simp +contextual only [hnl,↓kA,push_cast,seval,reduceCtorEq])|refine zAc ?_|(refine zAg ?_; simp only [thenQ,zAh,if_true,if_false,Nat.reduceEqDiff,reduceCtorEq])|(refine zAe (by rfl) (fun hb=>?_) (fun hb=>?_)<;>(try simp only [bq,reduceCtorEq] at hb)<;>(try omega))|fail)
   refine ⟨⟨Int.natCast_nonneg _,Int.ofNat_le.2 hle.1,Int.ofNat_le.2 hks⟩,rfl,by omega,?_⟩
   repeat' (first|(refine goK (by assumption) ?_; iterate 4 (try clear hK K))|(refine zAa hE rfl ?_; simp +contextual only [hnl,↓kA,push_cast,seval,reduceCtorEq])|refine andS ?_|fail)
   refine hL _ (s.size+1) (by omega) (by omega) ?_
   refine zAf ?_ ?_ ?_<;>simp only [push_cast,seval,reduceCtorEq]
   ·rw [hw]; rfl
   ·exact .inl (by rw [hw])
  ·by_cases h2:byteV s k=32
   ·have hw:=zG1 (s:=s) (k:=k) (.inr h2)
    replace hnl:=aa hnl (show decide ((s.data.toList.getD k 0).toNat=32)=true from aD h2)
    repeat' (first|(refine goK (by assumption) ?_; iterate 4 (try clear hK K))|(refine zAb fun K hK=>?_)|(refine zAa hE rfl ?_; simp +contextual only [hnl,↓kA,push_cast,seval,reduceCtorEq])|refine zAc ?_|(refine zAg ?_; simp only [thenQ,zAh,if_true,if_false,Nat.reduceEqDiff,reduceCtorEq])|(refine zAe (by rfl) (fun hb=>?_) (fun hb=>?_)<;>(try simp only [bq,reduceCtorEq] at hb)<;>(try omega))|refine andS ?_|(refine ⟨fun hc=>?_,fun hc=>?_⟩)|fail)
    refine ⟨⟨Int.natCast_nonneg _,Int.ofNat_le.2 hle.1,Int.ofNat_le.2 hks⟩,rfl,by omega,?_⟩
    repeat' (first|(refine goK (by assumption) ?_; iterate 4 (try clear hK K))|(refine zAa hE rfl ?_; simp +contextual only [hnl,↓kA,push_cast,seval,reduceCtorEq])|refine andS ?_|fail)
    refine hL _ (k+1) (by omega) (by omega) ?_
    refine zAf ?_ ?_ ?_<;>simp only [push_cast,seval,reduceCtorEq]
    ·rw [hw]; rfl
    ·exact .inl (by rw [hw])
   ·have hw:=zIe (s:=s) (k:=k) (fun h=>h.elim h1 h2)
    replace hnl:=aa hnl (show decide ((s.data.toList.getD k 0).toNat=32)=false from aF h2)
    repeat' (first|(refine goK (by assumption) ?_; iterate 4 (try clear hK K))|(refine zAb fun K hK=>?_)|(refine zAa hE rfl ?_; simp +contextual only [hnl,↓kA,push_cast,seval,reduceCtorEq])|refine zAc ?_|(refine zAg ?_; simp only [thenQ,zAh,if_true,if_false,Nat.reduceEqDiff,reduceCtorEq])|(refine zAe (by rfl) (fun hb=>?_) (fun hb=>?_)<;>(try simp only [bq,reduceCtorEq] at hb)<;>(try omega))|refine andS ?_|(refine ⟨fun hc=>?_,fun hc=>?_⟩)|fail)
    refine hL _ (k+1) (by omega) (by omega) ?_
    refine zAf ?_ ?_ ?_<;>simp only [push_cast,seval,reduceCtorEq]
    ·rw [hw]
    ·exact .inl (by rw [hw])
def decK (s:ByteArray):Nat->Int
 | 0=>0
 | k+1=>10*decK s k+((byteV s k:Int) - 48)
def zMm (s:ByteArray):Bool:=(List.range s.size).all fun k=>decide (48<=byteV s k/\byteV s k<=57)
def zBu (s:ByteArray):Bool:=decide (1<=s.size/\s.size<=6/\¬(1<s.size/\byteV s 0=48)) && zMm s
def numRV (s:ByteArray):Int:=if zBu s=true then decK s s.size else 0
theorem zDe {s:ByteArray}:zMm s=true↔∀ k,k<s.size->48<=byteV s k/\byteV s k<=57:=by
 simp only [zMm,ay,bR,au]
theorem zGe {s:ByteArray} (h6:s.size<=6):∀ {k:Nat},(∀ i,i<k->48<=byteV s i/\byteV s i<=57)->0<=decK s k/\decK s k+1<=10 ^ k
 | 0,_=>by simp [decK]
 | k+1,h=>by
  obtain ⟨h1,h2⟩:=zGe h6 (k:=k) (fun i hi=>h i (by omega))
  have h3:=h k (by omega)
  have e:decK s (k+1)=10*decK s k+((byteV s k:Int) - 48):=rfl
  rw [e,Int.pow_succ]
  omega
@[push_cast] def zV4:Con:=⟨[.dat .str,.dat .int],fun _=>True,fun (x:ByteArray×Int×Unit)=>{res:=[.val .int (numRV x.1),.val .bool (zBu x.1 && decide (numRV x.1<=x.2.1))]}⟩
theorem zHL {s:ByteArray} (h:zBu s=false):numRV s=0:=by rw [numRV,h]; rfl
theorem zMN {s:ByteArray} (h:¬(1<=s.size/\s.size<=6/\¬(1<s.size/\byteV s 0=48))):zBu s=false:=by rw [zBu,aF h]; rfl
theorem zDt {s:ByteArray} {k:Nat} (hk:k<s.size) (h:¬(48<=byteV s k/\byteV s k<=57)):zBu s=false:=by
 rw [zBu,Bool.and_eq_false_iff]
 right
 rw [bU]
 exact fun h2=>h (zDe.1 h2 k hk)
theorem zIZ {s:ByteArray} (h:1<=s.size/\s.size<=6/\¬(1<s.size/\byteV s 0=48)) (h2:∀ k,k<s.size->48<=byteV s k/\byteV s k<=57):zBu s=true:=by
 rw [zBu,aD h,Bool.true_and]
 exact zDe.2 h2
theorem zFE {s:ByteArray} (h6:s.size<=6) {k:Nat} (hk:k<=6) (h:∀ i,i<k->48<=byteV s i/\byteV s i<=57):0<=decK s k/\decK s k<=999999:=by
 obtain ⟨h1,h2⟩:=zGe h6 h
 have:(10:Int) ^ k<=10 ^ 6:=by
  rcases k with _|_|_|_|_|_|_|k<;>first|decide|omega
 have e:(10:Int) ^ 6=1000000:=rfl
 omega
theorem zRO:FnSpec Tryz.prog 108 zV4:=by
 refine FnSpec.of_tri' (E:=know [] [] [] []) (zAl all_nil all_nil all_nil) Tryz.func108 rfl rfl kr ?_
 intro C x hE hnl hfit hpre
 simp only [Tryz.ntmps108,Tryz.results108,maxLen,seval,push_cast] at hnl hfit hpre ⊢
 obtain ⟨(s:ByteArray),(most:Int),_⟩:=x
 dsimp only at hfit hpre ⊢
 by_cases hd:1<=s.size/\s.size<=6/\¬(1<s.size/\byteV s 0=48)
 rotate_left
 ·have e1:=zMN hd
  have e2:=zHL e1
  by_cases h0:byteV s 0=48
  ·replace hnl:=aa hnl (aa e1 (aa e2 (show decide ((s.data.toList.getD 0 0).toNat=48)=true from aD h0)))
   exact auC
  ·replace hnl:=aa hnl (aa e1 (aa e2 (show decide ((s.data.toList.getD 0 0).toNat=48)=false from aF h0)))
   exact auC
 obtain ⟨d1,d2,d3⟩:=hd
 by_cases h0:1<s.size
 ·have h00:¬byteV s 0=48:=fun h=>d3 ⟨h0,h⟩
  replace hnl:=aa hnl (show decide ((s.data.toList.getD 0 0).toNat=48)=false from aF h00)
  repeat' (first|(refine goK (by assumption) ?_; iterate 4 (try clear hK K))|(refine zAb fun K hK=>?_)|(refine zAa hE rfl ?_; simp +contextual only [hnl,↓kA,push_cast,seval,reduceCtorEq])|refine zAc ?_|(refine zAg ?_; simp only [thenQ,zAh,if_true,if_false,Nat.reduceEqDiff,reduceCtorEq])|(refine zAe (by rfl) (fun hb=>?_) (fun hb=>?_)<;>(try simp only [bq,reduceCtorEq] at hb)<;>(try omega))|refine andS ?_|(refine ⟨fun hc=>?_,fun hc=>?_⟩)|fail)
  all_goals try omega
  refine zAk (fun k:Nat=>AS.of [(0,.one (.val .str s)),(1,.one (.val .int most)),(6,.I (decK s k)),(7,.I k)] [] []) (fun k=>k<=s.size/\∀ i,i<k->48<=byteV s i/\byteV s i<=57) (fun k=>s.size - k) 0 ⟨aq _,by omega⟩ ?_ ?_
  ·refine zAf ?_ ?_ ?_<;>simp only [push_cast,seval,reduceCtorEq]
   all_goals first|rfl|exact ⟨rfl,rfl⟩
  intro k ⟨hk,hall⟩ K' hL
  have hb:=zFE d2 (k:=k) (by omega) hall
  rcases ai k s.size with hks|hks
  ·by_cases h1:48<=byteV s k
   ·by_cases h2:byteV s k<=57
    ·have hb2:=zFE d2 (k:=k+1) (by omega) (fun i hi=>by rcases ai i k with h3|h3; exact hall i h3; (obtain rfl:i=k:=by omega); exact ⟨h1,h2⟩)
     have he:decK s (k+1)=10*decK s k+((byteV s k:Int) - 48):=rfl
     have h1':48<=(s.data.toList.getD k 0).toNat:=h1
     have h2':(s.data.toList.getD k 0).toNat<=57:=h2
     replace hnl:=aa hnl (aa (show decide ((s.data.toList.getD k 0).toNat<48)=false from aF (by omega)) (show decide (57<(s.data.toList.getD k 0).toNat)=false from aF (by omega)))
     repeat' (first|(refine goK (by assumption) ?_; iterate 4 (try clear hK K))|(refine zAb fun K hK=>?_)|(refine zAa hE rfl ?_; simp +contextual only [hnl,↓kA,push_cast,seval,reduceCtorEq])|refine zAc ?_|(refine zAg ?_; simp only [thenQ,zAh,if_true,if_false,Nat.reduceEqDiff,reduceCtorEq])|(refine zAe (by rfl) (fun hb=>?_) (fun hb=>?_)<;>(try simp only [bq,reduceCtorEq] at hb)<;>(try omega))|refine andS ?_|fail)
     refine hL _ (k+1) ⟨by omega,fun i hi=>?_⟩ (by omega) ?_
     ·rcases ai i k with h3|h3
      ·exact hall i h3
      ·obtain rfl:i=k:=by omega
       exact ⟨h1,h2⟩
     refine zAf ?_ ?_ ?_<;>simp only [push_cast,seval,reduceCtorEq]
     show 10*decK s k+((((s.data.toList.getD k 0).toNat:Int) - 48) % 256).toNat=10*decK s k+(((s.data.toList.getD k 0).toNat:Int) - 48)
     omega
    ·have e1:=zDt hks (fun h=>h2 h.2)
     have e2:=zHL e1
     have h2':¬(s.data.toList.getD k 0).toNat<=57:=h2
     replace hnl:=aa hnl (aa e1 (aa e2 (aa (show decide ((s.data.toList.getD k 0).toNat<48)=false from aF (by omega)) (show decide (57<(s.data.toList.getD k 0).toNat)=true from aD (by omega)))))
     exact auC
   ·have e1:=zDt hks (fun h=>h1 h.1)
    have e2:=zHL e1
    have h1':¬48<=(s.data.toList.getD k 0).toNat:=h1
    replace hnl:=aa hnl (aa e1 (aa e2 (show decide ((s.data.toList.getD k 0).toNat<48)=true from aD (by omega))))
    exact auC
  ·obtain rfl:k=s.size:=by omega
   have e1:=zIZ ⟨d1,d2,d3⟩ hall
   have e2:numRV s=decK s s.size:=by rw [numRV,ah e1]
   replace hnl:=aa hnl (aa e1 e2)
   exact auC
 ·repeat' (first|(refine goK (by assumption) ?_; iterate 4 (try clear hK K))|(refine zAb fun K hK=>?_)|(refine zAa hE rfl ?_; simp +contextual only [hnl,↓kA,push_cast,seval,reduceCtorEq])|refine zAc ?_|(refine zAg ?_; simp only [thenQ,zAh,if_true,if_false,Nat.reduceEqDiff,reduceCtorEq])|(refine zAe (by rfl) (fun hb=>?_) (fun hb=>?_)<;>(try simp only [bq,reduceCtorEq] at hb)<;>(try omega))|refine andS ?_|(refine ⟨fun hc=>?_,fun hc=>?_⟩)|(intro hc; try omega))
  all_goals try omega
  refine zAk (fun k:Nat=>AS.of [(0,.one (.val .str s)),(1,.one (.val .int most)),(6,.I (decK s k)),(7,.I k)] [] []) (fun k=>k<=s.size/\∀ i,i<k->48<=byteV s i/\byteV s i<=57) (fun k=>s.size - k) 0 ⟨aq _,by omega⟩ ?_ ?_
  ·refine zAf ?_ ?_ ?_<;>simp only [push_cast,seval,reduceCtorEq]
   all_goals first|rfl|exact ⟨rfl,rfl⟩
  intro k ⟨hk,hall⟩ K' hL
  have hb:=zFE d2 (k:=k) (by omega) hall
  rcases ai k s.size with hks|hks
  ·by_cases h1:48<=byteV s k
   ·by_cases h2:byteV s k<=57
    ·have hb2:=zFE d2 (k:=k+1) (by omega) (fun i hi=>by rcases ai i k with h3|h3; exact hall i h3; (obtain rfl:i=k:=by omega); exact ⟨h1,h2⟩)
     have he:decK s (k+1)=10*decK s k+((byteV s k:Int) - 48):=rfl
     have h1':48<=(s.data.toList.getD k 0).toNat:=h1
     have h2':(s.data.toList.getD k 0).toNat<=57:=h2
     replace hnl:=aa hnl (aa (show decide ((s.data.toList.getD k 0).toNat<48)=false from aF (by omega)) (show decide (57<(s.data.toList.getD k 0).toNat)=false from aF (by omega)))
     repeat' (first|(refine goK (by assumption) ?_; iterate 4 (try clear hK K))|(refine zAb fun K hK=>?_)|(refine zAa hE rfl ?_; simp +contextual only [hnl,↓kA,push_cast,seval,reduceCtorEq])|refine zAc ?_|(refine zAg ?_; simp only [thenQ,zAh,if_true,if_false,Nat.reduceEqDiff,reduceCtorEq])|(refine zAe (by rfl) (fun hb=>?_) (fun hb=>?_)<;>(try simp only [bq,reduceCtorEq] at hb)<;>(try omega))|refine andS ?_|fail)
     refine hL _ (k+1) ⟨by omega,fun i hi=>?_⟩ (by omega) ?_
     ·rcases ai i k with h3|h3
      ·exact hall i h3
      ·obtain rfl:i=k:=by omega
       exact ⟨h1,h2⟩
     refine zAf ?_ ?_ ?_<;>simp only [push_cast,seval,reduceCtorEq]
     show 10*decK s k+((((s.data.toList.getD k 0).toNat:Int) - 48) % 256).toNat=10*decK s k+(((s.data.toList.getD k 0).toNat:Int) - 48)
     omega
    ·have e1:=zDt hks (fun h=>h2 h.2)
     have e2:=zHL e1
     have h2':¬(s.data.toList.getD k 0).toNat<=57:=h2
     replace hnl:=aa hnl (aa e1 (aa e2 (aa (show decide ((s.data.toList.getD k 0).toNat<48)=false from aF (by omega)) (show decide (57<(s.data.toList.getD k 0).toNat)=true from aD (by omega)))))
     exact auC
   ·have e1:=zDt hks (fun h=>h1 h.1)
    have e2:=zHL e1
    have h1':¬48<=(s.data.toList.getD k 0).toNat:=h1
    replace hnl:=aa hnl (aa e1 (aa e2 (show decide ((s.data.toList.getD k 0).toNat<48)=true from aD (by omega))))
    exact auC
  ·obtain rfl:k=s.size:=by omega
   have e1:=zIZ ⟨d1,d2,d3⟩ hall
   have e2:numRV s=decK s s.size:=by rw [numRV,ah e1]
   replace hnl:=aa hnl (aa e1 e2)
   exact auC
end Go.Proofs.YtekfodeknpnkbaaGreatDoor
