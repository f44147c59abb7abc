import Derived.Test.YtlgkplnifaoeeaaGreatDoorW7
import Derived.Lib.AtoiAllCases
import Derived.Recover
import Derived.Tactics2
import Derived.Laws.Pointers
set_option linter.unusedSimpArgs false
set_option linter.unusedVariables false
namespace Go.Proofs.YtlgkplnifaoeeaaGreatDoor
open Go.RowKit Go.VS
def nlS:ByteArray:=⟨#[10]⟩
def spS:ByteArray:=⟨#[32]⟩
theorem zVB:({data:=#[10]}:ByteArray)=nlS:=rfl
theorem zMA:({data:=#[32]}:ByteArray)=spS:=rfl
def lastV (b:ByteArray):Int:=atoiV (cut1 ((zAA (trimV b nlS) nlS).getD (((zAA (trimV b nlS) nlS).length:Int) - 1).toNat ByteArray.empty) spS)
@[push_cast] def zWl:Con:=⟨[.dat .str],fun (x:ByteArray×Unit)=>x.1.size≤100000,fun (x:ByteArray×Unit)=>{res:=[.val .int (lastV x.1)]}⟩
theorem zR5:FnSpec Tryz.prog 128 zWl:=by
 refine FnSpec.of_tri' (E:=know _ [] [] []) (zAl (kc zTl (kc zKd (kc zOC (kc zIb all_nil)))) all_nil all_nil) Tryz.func128 rfl rfl (by kernel_rfl) ?_
 intro C x hE hnl hfit hpre
 simp only [Tryz.ntmps128,Tryz.results128,maxLen,seval,push_cast] at hnl hfit hpre ⊢
 obtain ⟨(b:ByteArray),_⟩:=x
 dsimp only at hfit hpre ⊢
 have h1:1≤nlS.size:=Nat.le_refl _
 have h2:=zQW b nlS
 have h3:=zFL (trimV b nlS) nlS h1
 have h4:=zKc (trimV b nlS) nlS _ (zAR ByteArray.empty (show (((zAA (trimV b nlS) nlS).length:Int) - 1).toNat<(zAA (trimV b nlS) nlS).length by omega))
 have h5:=zRE ((zAA (trimV b nlS) nlS).getD (((zAA (trimV b nlS) nlS).length:Int) - 1).toNat ByteArray.empty) spS
 have h6:=zKb (trimV b nlS) nlS h1
 replace hnl:=And.intro hnl (And.intro zVB zMA)
 cases hA:zDA (cut1 ((zAA (trimV b nlS) nlS).getD (((zAA (trimV b nlS) nlS).length:Int) - 1).toNat ByteArray.empty) spS) with
 | true =>
  replace hnl:=And.intro hnl hA
  repeat' (first|(refine goK (by assumption) ?_; iterate 4 (try clear hK K))|(refine zAc fun K hK=>?_)|((first|refine zAa hE rfl ?_|refine zAh ?_); simp +contextual only [hnl,↓kN,↓kP,↓kG,↓qN,↓qP,↓qG,push_cast,seval,reduceCtorEq])|refine andS ?_|fail)
  rfl
 | false =>
  replace hnl:=And.intro hnl hA
  repeat' (first|(refine goK (by assumption) ?_; iterate 4 (try clear hK K))|(refine zAc fun K hK=>?_)|((first|refine zAa hE rfl ?_|refine zAh ?_); simp +contextual only [hnl,↓kN,↓kP,↓kG,↓qN,↓qP,↓qG,push_cast,seval,reduceCtorEq])|refine andS ?_|fail)
  rfl
def textV (least:Int) (order:ByteArray):ByteArray:=itoaV least++spS++order
def zCM (book:ByteArray) (least:Int) (order:ByteArray):ByteArray:=book++itoaV (sumV (lastV book) (textV least order))++spS++textV least order++nlS
structure WrPre (book:ByteArray) (least:Int) (order:ByteArray):Prop where
 book:book.size≤100000
 least:InR least
 order:order.size≤1000
@[push_cast] def zFQ:Con:=⟨[.dat .str,.dat .int,.dat .str],fun (x:ByteArray×Int×ByteArray×Unit)=>WrPre x.1 x.2.1 x.2.2.1,fun (x:ByteArray×Int×ByteArray×Unit)=>{res:=[.val .str (zCM x.1 x.2.1 x.2.2.1)]}⟩
theorem zAU (a b:ByteArray):(a++b).size=a.size+b.size:=ByteArray.size_append
theorem zMV:FnSpec Tryz.prog 80 zFQ:=by
 refine FnSpec.of_tri' (E:=know _ [] [] []) (zAl (kc zGv (kc zR5 (kc zG4 all_nil))) all_nil all_nil) Tryz.func80 rfl rfl (by kernel_rfl) ?_
 intro C x hE hnl hfit hpre
 simp only [Tryz.ntmps80,Tryz.results80,maxLen,seval,push_cast] at hnl hfit hpre ⊢
 obtain ⟨(book:ByteArray),(least:Int),(order:ByteArray),_⟩:=x
 dsimp only at hfit hpre ⊢
 obtain ⟨hb1,hb2,hb3⟩:=hpre
 have h1:=zCs hb2
 have h2:nlS.size=1:=rfl
 have h3:spS.size=1:=rfl
 have h4:(textV least order).size=(itoaV least).size+1+order.size:=by unfold textV; rw [zAU,zAU]; rfl
 have h5:=zCf (lastV book) (textV least order) (textV least order).size
 have h6:InR (sumV (lastV book) (textV least order)):=by unfold InR sumV; omega
 have h7:=zCs h6
 have hT:itoaV least++spS++order=textV least order:=rfl
 have h8:(itoaV least++spS).size=(itoaV least).size+1:=zAU _ _
 have h9:(book++itoaV (sumV (lastV book) (textV least order))).size=book.size+(itoaV (sumV (lastV book) (textV least order))).size:=zAU _ _
 have h10:(book++itoaV (sumV (lastV book) (textV least order))++spS).size=book.size+(itoaV (sumV (lastV book) (textV least order))).size+1:=by rw [zAU,h9]; rfl
 have h11:(book++itoaV (sumV (lastV book) (textV least order))++spS++textV least order).size=book.size+(itoaV (sumV (lastV book) (textV least order))).size+1+(textV least order).size:=by rw [zAU,h10]
 have h12:book.size≤100000:=hb1
 replace hnl:=And.intro hnl (And.intro zVB (And.intro zMA (And.intro hT (And.intro h2 (And.intro h3 (And.intro h8 (And.intro h9 (And.intro h10 h11))))))))
 repeat' (first|(refine goK (by assumption) ?_; iterate 4 (try clear hK K))|(refine zAc fun K hK=>?_)|((first|refine zAa hE rfl ?_|refine zAh ?_); simp +contextual only [hnl,↓kN,↓kP,↓kG,↓qN,↓qP,↓qG,push_cast,seval,reduceCtorEq])|refine andS ?_|fail)
 all_goals rfl
def numV (s:ByteArray) (most:Int):Bool:=zDA s && (decide (0≤atoiV s) && (decide (atoiV s≤most) && decide (itoaV (atoiV s)=s)))
end Go.Proofs.YtlgkplnifaoeeaaGreatDoor
namespace Go.Proofs.YtlgkplnifaoeeaaGreatDoor
open Go.RowKit Go.VS
def byteV (s:ByteArray) (k:Nat):Nat:=(s.data.toList.getD k 0).toNat
def wK (s:ByteArray):Nat→List ByteArray×Nat
 | 0=>([],0)
 | k+1=>if k=s.size∨byteV s k=32 then ((wK s k).1++[s.extract (wK s k).2 k],k+1) else wK s k
def zBv (s:ByteArray):List ByteArray:=(wK s (s.size+1)).1
theorem zHQ {s:ByteArray} {k:Nat} (h:k=s.size∨byteV s k=32):wK s (k+1)=((wK s k).1++[s.extract (wK s k).2 k],k+1):=if_pos h
theorem zJa {s:ByteArray} {k:Nat} (h:¬(k=s.size∨byteV s k=32)):wK s (k+1)=wK s k:=if_neg h
theorem wK_le (s:ByteArray):∀ k,(wK s k).2≤k∧(wK s k).1.length≤k
 | 0=>⟨Nat.le_refl _,Nat.le_refl _⟩
 | k+1=>by
  have h:=wK_le s k
  by_cases h1:k=s.size∨byteV s k=32
  ·rw [zHQ h1]
   exact ⟨Nat.le_refl _,by rw [List.length_append]; simp; omega⟩
  ·rw [zJa h1]
   omega
def decK (s:ByteArray):Nat→Int
 | 0=>0
 | k+1=>10*decK s k+((byteV s k:Int) - 48)
def zNh (s:ByteArray):Bool:=(List.range s.size).all fun k=>decide (48≤byteV s k∧byteV s k≤57)
def zBi (s:ByteArray):Bool:=decide (1≤s.size∧s.size≤6∧¬(1<s.size∧byteV s 0=48)) && zNh s
def numRV (s:ByteArray):Int:=if zBi s=true then decK s s.size else 0
theorem zCT {s:ByteArray}:zNh s=true↔∀ k,k<s.size→48≤byteV s k∧byteV s k≤57:=by
 simp only [zNh,List.all_eq_true,List.mem_range,decide_eq_true_eq]
theorem zGY {s:ByteArray} (h6:s.size≤6):∀ {k:Nat},(∀ i,i<k→48≤byteV s i∧byteV s i≤57)→0≤decK s k∧decK s k+1≤10 ^ k
 | 0,_=>by simp [decK]
 | k+1,h=>by
  obtain ⟨h1,h2⟩:=zGY h6 (k:=k) (fun i hi=>h i (by omega))
  have h3:=h k (by omega)
  have e:decK s (k+1)=10*decK s k+((byteV s k:Int) - 48):=rfl
  rw [e,Int.pow_succ]
  omega
end Go.Proofs.YtlgkplnifaoeeaaGreatDoor
namespace Go.Proofs.YtlgkplnifaoeeaaGreatDoor
open Go.RowKit Go.VS
def pPut:ByteArray:=⟨#[112,117,116]⟩
def pTake:ByteArray:=⟨#[116,97,107,101]⟩
def pWant:ByteArray:=⟨#[119,97,110,116]⟩
def pDrop:ByteArray:=⟨#[100,114,111,112]⟩
def pCost:ByteArray:=⟨#[99,111,115,116]⟩
def zIL:ByteArray:=⟨#[119,97,115,116,101]⟩
def zIK:ByteArray:=⟨#[99,108,97,105,109]⟩
def numsV (n:ByteArray):Int:=if n=pPut∨n=pTake∨n=pWant∨n=pDrop then 2 else if n=pCost then 3 else if n=zIL∨n=zIK then 1 else -1
def zAC (t:ByteArray) (i:Nat):ByteArray:=(zBv t).getD i ByteArray.empty
end Go.Proofs.YtlgkplnifaoeeaaGreatDoor
namespace Go.Proofs.YtlgkplnifaoeeaaGreatDoor
open Go.RowKit Go.VS Go.OT
def zB1 (a b:List Int) (c:List (List Int)) (k:Nat):List Int:=(List.range (k+1)).map (partV a b c)
def enK (a b:List Int) (c:List (List Int)) (p:List Int×Int×Unit→Bool) (k:Nat):Bool:=p (zB1 a b c k,nuV a b c k,())
def zFa (a b:List Int) (c:List (List Int)) (p:List Int×Int×Unit→Bool):Nat:=stopK (maxU a b) (enK a b c p)
theorem zJ1 (a b:List Int) (c:List (List Int)) (k:Nat):(zB1 a b c k).length=k+1:=by simp [zB1]
theorem zNI (a b:List Int) (c:List (List Int)) (k:Nat):zB1 a b c (k+1)=zB1 a b c k++[partV a b c (k+1)]:=by
 unfold zB1
 rw [List.range_succ,List.map_append]
 rfl
theorem zMh (a b:List Int) (c:List (List Int)) {k m:Nat} (h:m≤k):(zB1 a b c k).getD m 0=partV a b c m:=by
 simp [zB1,List.getD_eq_getElem?_getD,Nat.lt_succ_of_le h]
theorem zPp {M k:Nat} {en:Nat→Bool} (h1:k≤M) (h2:∀ m,m<k→en m=false) (h3:k=M∨en k=true):stopK M en=k:=by
 obtain ⟨g1,g2,g3⟩:=zHj M en
 rcases Nat.lt_trichotomy (stopK M en) k with h|h|h
 ·have:=h2 _ h
  rw [g3 (by omega)] at this
  cases this
 ·exact h
 ·rcases h3 with h3|h3
  ·omega
  ·rw [g2 _ h] at h3
   cases h3
abbrev zRe:=List Int×List Int×List (List Int)×((List Int×Int×Unit→Prop)×(List Int×Int×Unit→Bool))×Unit
@[reducible] def zPk:List AD:=[.dat (.sl .int),.dat (.sl .int),.dat (.sl (.sl .int)),.fnc [.sl .int,.int] .bool]
@[push_cast] theorem zXh {a:Sh} {r:Nat} {bs:List BV}:zLX a (.ref r::bs)=none:=rfl
def rowsC (p:List (List Int)) (n i:Nat):List (List Int):=p.take i++List.replicate (n - i) []
theorem zS6 {p:List (List Int)} {n i:Nat} (h:p.length=n) (hi:i≤n):(rowsC p n i).length=n:=by simp [rowsC]; omega
theorem zS7 {p:List (List Int)} {n i:Nat} (h:p.length=n) (hi:i<n) (z:List Int):((rowsC p n i).set i z).set i (p.getD i [])=rowsC p n (i+1):=by
 rw [List.set_set]
 unfold rowsC
 have e:n - i=(n - (i+1))+1:=by omega
 rw [e,List.replicate_succ,List.set_append_right _ _ (by simp; omega),List.length_take,Nat.min_eq_left (by omega),Nat.sub_self,List.set_cons_zero,List.take_succ_eq_append_getElem (by omega),List.append_assoc]
 simp [List.getD_eq_getElem?_getD,show i<p.length by omega]
theorem zWU (p:List (List Int)) (n:Nat):rowsC p n 0=List.replicate n []:=by simp [rowsC]
theorem zS5 {p:List (List Int)} {n:Nat} (h:p.length=n):rowsC p n n=p:=by simp [rowsC,←h]
theorem zMw {f:Nat→Int} {M:Int}:∀ n:Nat,(∀ i,i<n→f i≤M)→sg n f≤n*M
 | 0,_=>by simp [sg]
 | n+1,h=>by
  have h1:=zMw n fun i hi=>h i (by omega)
  have h2:=h n (by omega)
  show sg n f+f n≤_
  rw [Int.natCast_add,Int.add_mul]
  omega
theorem zO6 {a b:List Int} {c:List (List Int)} (hm:MC a b c):maxU a b≤1200:=by
 have h1:sumL a≤a.length*200:=zMw _ fun i hi=>(hm.ha.at hi).2
 have:=hm.a5
 unfold maxU
 omega
structure SeI (a b:List Int) (c:List (List Int)) (p:List Int×Int×Unit→Bool) (k:Nat):Prop where
 le:k≤maxU a b
 no:∀ m,m<k→enK a b c p m=false
theorem zQO (C:Ctx) (γ:Gam) (x:zRe) (vs:List Value) (hm:MC x.1 x.2.1 x.2.2.1) (hq:∀ y,x.2.2.2.1.1 y) (hen:Entry C γ Tryz.prog zPk x vs) :
 Calls Tryz.prog 216 vs.toArray C.w0 (fun e w=>∃ ch,e=.panicked ch ∧
  zH9 C 183 (.sl (.sl .int)) (.sl .int) (stepP x.1 x.2.1 x.2.2.1 (zFa x.1 x.2.1 x.2.2.1 x.2.2.2.1.2)) (zB1 x.1 x.2.1 x.2.2.1 (zFa x.1 x.2.1 x.2.2.1 x.2.2.2.1.2)) ch w):=by
 refine zYe (E:=know [(188,zOJ),(189,zSv)] [] [] [17]) (zAl (all_cons zJx (all_cons zL6 all_nil)) all_nil all_nil) (G:=fun C=>zH9 C 183 (.sl (.sl .int)) (.sl .int) _ _) Tryz.func216 rfl (by simp [zAO,Tryz.ntmps216]) ?_ C γ vs hen
 clear hen vs γ C
 intro C hP hE hnl hfit
 obtain ⟨(a:List Int),(b:List Int),(c:List (List Int)),⟨(q:List Int×Int×Unit→Prop),(p:List Int×Int×Unit→Bool)⟩,_⟩:=x
 dsimp only at hm hq hfit ⊢
 have ha5:=hm.a5
 have hb5:=hm.b5
 have hT:∃ fs,C.P.underlying 183=some (.struct fs):=by rw [hP]; exact ⟨_,Tryz.underlying183⟩
 have hu:C.P.underlying 25=some (.slice 3):=by rw [hP]; exact Tryz.underlying25
 have hs:(C.P.info? 3).map (·.size)=some 1:=by rw [hP]; kernel_rfl
 simp only [Tryz.ntmps216,Tryz.results216,maxLen,Nat.reduceSub,Nat.reducePow,Nat.reduceAdd,Int.cast_ofNat_Int,push_cast] at hnl hfit ⊢
 repeat' (first|(refine goP (by assumption) ?_; iterate 4 (try clear hK K))|(refine zEt fun K hK=>?_)|(refine zCg ?_; refine zAa hE rfl ?_; simp +contextual only [hnl,↓kN,↓kP,↓kG,↓qN,↓qP,↓qG,push_cast,seval,reduceCtorEq,Int.cast_ofNat_Int])|(refine zCg ?_; (refine zET hE 3 [0] rfl (by decide +kernel) ?_; simp only [List.length_cons,List.length_nil,Nat.reduceAdd,Nat.reduceSub,List.take_succ_cons,List.take_zero,List.drop_succ_cons,List.drop_zero,pickM,headM,List.filterMap_cons,List.filterMap_nil,List.getElem?_cons_zero,List.getElem?_cons_succ,List.contains_cons,List.contains_nil,Nat.reduceBEq,Bool.or_false,Bool.false_or,Bool.true_or,Bool.or_true,if_true,Bool.false_eq_true,if_false,List.cons_append,List.nil_append]; simp +contextual only [hnl,↓kN,↓kP,↓kG,↓qN,↓qP,↓qG,push_cast,seval,reduceCtorEq,Int.cast_ofNat_Int]))|first|(refine goK (by assumption) ?_; iterate 4 (try clear hK K))|(refine zAc fun K hK=>?_)|((first|refine zAa hE rfl ?_|refine zAh ?_); simp +contextual only [hnl,↓kN,↓kP,↓kG,↓qN,↓qP,↓qG,push_cast,seval,reduceCtorEq,Int.cast_ofNat_Int])|refine zAd ?_|((first|refine zAf ?_|refine zAj ?_); simp only [thenQ,zAi,if_true,if_false,Nat.reduceEqDiff,reduceCtorEq])|(refine zAe (by rfl) (fun hb=>?_) (fun hb=>?_)<;>(try simp only [bqa,bqb,bqc,bqd,reduceCtorEq,bqe,bqf] at hb)<;>(try omega))|refine zAm (by rfl) ?_ ?_|refine andS ?_|(refine ⟨fun hc=>?_,fun hc=>?_⟩)|(intro hc; try omega))
 refine zKk ?_
 refine zQU (fun k:Nat=>AS.of [(0,.one (.val (.sl .int) a)),(1,.one (.val (.sl .int) b)),(2,.one (.val (.sl (.sl .int)) c)),(3,.one (.fnv [.sl .int,.int] .bool q p)),(8,.one (.box 8))] [(17,.flat 3 .int (zB1 a b c k))] [(8,.rcd [.val (.sl (.sl .int)) (stepP a b c k),.ref 17])])
  (SeI a b c p) (fun k=>maxU a b - k) 0 ⟨Nat.zero_le _,fun m hm=>absurd hm (Nat.not_lt_zero _)⟩ ?_ ?_
 ·refine zAg ?_ ?_ ?_<;>simp only [push_cast,seval,reduceCtorEq,Int.cast_ofNat_Int]
  ·exact .inl rfl
  ·rfl
 intro k hI K' hL
 have hst:=stepI hm k hI.le
 have hlen:(stepP a b c k).length=a.length:=hst.way.shp.rows
 refine zKk ?_
 repeat' (first|(refine goP (by assumption) ?_; iterate 4 (try clear hK K))|(refine zEt fun K hK=>?_)|(refine zCg ?_; refine zAa hE rfl ?_; simp +contextual only [hnl,↓kN,↓kP,↓kG,↓qN,↓qP,↓qG,push_cast,seval,reduceCtorEq,Int.cast_ofNat_Int])|(refine zCg ?_; (refine zET hE 3 [0] rfl (by decide +kernel) ?_; simp only [List.length_cons,List.length_nil,Nat.reduceAdd,Nat.reduceSub,List.take_succ_cons,List.take_zero,List.drop_succ_cons,List.drop_zero,pickM,headM,List.filterMap_cons,List.filterMap_nil,List.getElem?_cons_zero,List.getElem?_cons_succ,List.contains_cons,List.contains_nil,Nat.reduceBEq,Bool.or_false,Bool.false_or,Bool.true_or,Bool.or_true,if_true,Bool.false_eq_true,if_false,List.cons_append,List.nil_append]; simp +contextual only [hnl,↓kN,↓kP,↓kG,↓qN,↓qP,↓qG,push_cast,seval,reduceCtorEq,Int.cast_ofNat_Int]))|first|(refine goK (by assumption) ?_; iterate 4 (try clear hK K))|(refine zAc fun K hK=>?_)|((first|refine zAa hE rfl ?_|refine zAh ?_); simp +contextual only [hnl,↓kN,↓kP,↓kG,↓qN,↓qP,↓qG,push_cast,seval,reduceCtorEq,Int.cast_ofNat_Int])|refine zAd ?_|((first|refine zAf ?_|refine zAj ?_); simp only [thenQ,zAi,if_true,if_false,Nat.reduceEqDiff,reduceCtorEq])|(refine zAe (by rfl) (fun hb=>?_) (fun hb=>?_)<;>(try simp only [bqa,bqb,bqc,bqd,reduceCtorEq,bqe,bqf] at hb)<;>(try omega))|refine zAm (by rfl) ?_ ?_|refine andS ?_|(refine ⟨fun hc=>?_,fun hc=>?_⟩)|(intro hc; try omega))
 refine zCg ?_
 repeat' (first|(refine goK (by assumption) ?_; iterate 4 (try clear hK K))|(refine zAc fun K hK=>?_)|((first|refine zAa hE rfl ?_|refine zAh ?_); simp +contextual only [hnl,↓kN,↓kP,↓kG,↓qN,↓qP,↓qG,push_cast,seval,reduceCtorEq,Int.cast_ofNat_Int])|refine zAd ?_|((first|refine zAf ?_|refine zAj ?_); simp only [thenQ,zAi,if_true,if_false,Nat.reduceEqDiff,reduceCtorEq])|(refine zAe (by rfl) (fun hb=>?_) (fun hb=>?_)<;>(try simp only [bqa,bqb,bqc,bqd,reduceCtorEq,bqe,bqf] at hb)<;>(try omega))|refine zAm (by rfl) ?_ ?_|refine andS ?_|(refine ⟨fun hc=>?_,fun hc=>?_⟩)|(intro hc; try omega))
 refine zAk (fun i:Nat=>AS.of [(0,.one (.val (.sl .int) a)),(1,.one (.val (.sl .int) b)),(2,.one (.val (.sl (.sl .int)) c)),(3,.one (.fnv [.sl .int,.int] .bool q p)),(8,.one (.box 8)),(9,.one (.ref 22)),(24,.one (.val (.sl (.sl .int)) (stepP a b c k))),(25,.I (stepP a b c k).length),(26,.I i)] [(17,.flat 3 .int (zB1 a b c k)),(22,.deep 25 3 .int (rowsC (stepP a b c k) a.length i))] [(8,.rcd [.val (.sl (.sl .int)) (stepP a b c k),.ref 17])])
  (fun i=>i≤a.length) (fun i=>a.length - i) 0 (Nat.zero_le _) ?_ ?_
 ·refine zAg ?_ ?_ ?_<;>simp only [push_cast,seval,reduceCtorEq,Int.cast_ofNat_Int]
  rw [zWU,hlen]
  exact .inl rfl
 intro i hi K2 hL2
 have hrl:=zS6 hlen hi
 rcases Nat.lt_or_ge i a.length with hia|hia
 ·have hw:=hst.way.shp.cols i (by omega)
  have hg:=zS7 hlen hia (List.replicate ((stepP a b c k).getD i []).length 0)
  have hgl:((rowsC (stepP a b c k) a.length i).set i (List.replicate ((stepP a b c k).getD i []).length 0)).length=a.length:=by rw [List.length_set,hrl]
  have hgg:((rowsC (stepP a b c k) a.length i).set i (List.replicate ((stepP a b c k).getD i []).length 0)).getD i []=List.replicate ((stepP a b c k).getD i []).length 0:=by
   rw [List.getD_eq_getElem?_getD,List.getElem?_set_self (by omega)]; rfl
  repeat' (first|((refine zU8 hE 5 hu hs rfl rfl ?_; simp only [List.length_cons,List.length_nil,Nat.reduceAdd,Nat.reduceSub,List.take_succ_cons,List.take_zero,List.drop_succ_cons,List.drop_zero]; simp +contextual only [hnl,↓kN,↓kP,↓kG,↓qN,↓qP,↓qG,copyS,push_cast,seval,reduceCtorEq,Int.cast_ofNat_Int]))|first|(refine goK (by assumption) ?_; iterate 4 (try clear hK K))|(refine zAc fun K hK=>?_)|((first|refine zAa hE rfl ?_|refine zAh ?_); simp +contextual only [hnl,↓kN,↓kP,↓kG,↓qN,↓qP,↓qG,push_cast,seval,reduceCtorEq,Int.cast_ofNat_Int])|refine zAd ?_|((first|refine zAf ?_|refine zAj ?_); simp only [thenQ,zAi,if_true,if_false,Nat.reduceEqDiff,reduceCtorEq])|(refine zAe (by rfl) (fun hb=>?_) (fun hb=>?_)<;>(try simp only [bqa,bqb,bqc,bqd,reduceCtorEq,bqe,bqf] at hb)<;>(try omega))|refine zAm (by rfl) ?_ ?_|refine andS ?_|(refine ⟨fun hc=>?_,fun hc=>?_⟩)|(intro hc; try omega))
  refine ⟨by rw [hgg,List.length_replicate],?_⟩
  repeat' (first|(refine goK (by assumption) ?_; iterate 4 (try clear hK K))|(refine zAc fun K hK=>?_)|((first|refine zAa hE rfl ?_|refine zAh ?_); simp +contextual only [hnl,↓kN,↓kP,↓kG,↓qN,↓qP,↓qG,push_cast,seval,reduceCtorEq,Int.cast_ofNat_Int])|refine zAd ?_|((first|refine zAf ?_|refine zAj ?_); simp only [thenQ,zAi,if_true,if_false,Nat.reduceEqDiff,reduceCtorEq])|(refine zAe (by rfl) (fun hb=>?_) (fun hb=>?_)<;>(try simp only [bqa,bqb,bqc,bqd,reduceCtorEq,bqe,bqf] at hb)<;>(try omega))|refine zAm (by rfl) ?_ ?_|refine andS ?_|(refine ⟨fun hc=>?_,fun hc=>?_⟩)|(intro hc; try omega))
  rw [hg]
  refine hL2 _ (i+1) (by omega) (by omega) ?_
  refine zAg ?_ ?_ ?_<;>simp only [push_cast,seval,reduceCtorEq,Int.cast_ofNat_Int]
  done
 ·obtain rfl:i=a.length:=by omega
  have hra:=zS5 hlen
  have hends:(nextP a b c (stepP a b c k)).isSome=true:=by
   by_cases hb:bestV a b c (stepP a b c k)<0
   ·rw [(zFB hm.hc hst.way hb).1]; rfl
   ·obtain ⟨p',h4,_⟩:=zEj hm.hc hst.way hb
    rw [h4]; rfl
  have hpre2:NextPre a b c (.deep 25 3 .int (stepP a b c k)):=⟨by rw [zDw],by rw [zDw]; exact hst.way.shp,hm.hc,by rw [zDw]; exact hends⟩
  rcases Nat.lt_or_ge k (maxU a b) with hk|hk
  ·have hb0:=(hst.more hm).2 hk
   obtain ⟨n1,n2,n3,n4,n5⟩:=hst.next hm hk
   replace hnl:=And.intro hnl (And.intro hra (And.intro n2 (eq_true (show 0≤bestV a b c (stepP a b c k) by omega))))
   replace hnl:=And.intro hnl (eq_true (hq (zB1 a b c k,nextN a b c (stepP a b c k),())))
   by_cases he:enK a b c p k=true
   ·have hfk:zFa a b c p=k:=zPp hI.le hI.no (.inr he)
    replace hnl:=And.intro hnl (show p (zB1 a b c k,nextN a b c (stepP a b c k),())=true from he)
    repeat' (first|(refine goK (by assumption) ?_; iterate 4 (try clear hK K))|(refine zAc fun K hK=>?_)|((first|refine zAa hE rfl ?_|refine zAh ?_); simp +contextual only [hnl,↓kN,↓kP,↓kG,↓qN,↓qP,↓qG,push_cast,seval,reduceCtorEq,Int.cast_ofNat_Int])|refine zAd ?_|((first|refine zAf ?_|refine zAj ?_); simp only [thenQ,zAi,if_true,if_false,Nat.reduceEqDiff,reduceCtorEq])|(refine zAe (by rfl) (fun hb=>?_) (fun hb=>?_)<;>(try simp only [bqa,bqb,bqc,bqd,reduceCtorEq,bqe,bqf] at hb)<;>(try omega))|refine zAm (by rfl) ?_ ?_|refine andS ?_|(refine ⟨fun hc=>?_,fun hc=>?_⟩)|(intro hc; try omega))
    repeat' (first|(refine goP (by assumption) ?_; iterate 4 (try clear hK K))|(refine zEt fun K hK=>?_)|(refine zCg ?_; refine zAa hE rfl ?_; simp +contextual only [hnl,↓kN,↓kP,↓kG,↓qN,↓qP,↓qG,push_cast,seval,reduceCtorEq,Int.cast_ofNat_Int])|(refine zCg ?_; (refine zET hE 3 [0] rfl (by decide +kernel) ?_; simp only [List.length_cons,List.length_nil,Nat.reduceAdd,Nat.reduceSub,List.take_succ_cons,List.take_zero,List.drop_succ_cons,List.drop_zero,pickM,headM,List.filterMap_cons,List.filterMap_nil,List.getElem?_cons_zero,List.getElem?_cons_succ,List.contains_cons,List.contains_nil,Nat.reduceBEq,Bool.or_false,Bool.false_or,Bool.true_or,Bool.or_true,if_true,Bool.false_eq_true,if_false,List.cons_append,List.nil_append]; simp +contextual only [hnl,↓kN,↓kP,↓kG,↓qN,↓qP,↓qG,push_cast,seval,reduceCtorEq,Int.cast_ofNat_Int]))|first|(refine goK (by assumption) ?_; iterate 4 (try clear hK K))|(refine zAc fun K hK=>?_)|((first|refine zAa hE rfl ?_|refine zAh ?_); simp +contextual only [hnl,↓kN,↓kP,↓kG,↓qN,↓qP,↓qG,push_cast,seval,reduceCtorEq,Int.cast_ofNat_Int])|refine zAd ?_|((first|refine zAf ?_|refine zAj ?_); simp only [thenQ,zAi,if_true,if_false,Nat.reduceEqDiff,reduceCtorEq])|(refine zAe (by rfl) (fun hb=>?_) (fun hb=>?_)<;>(try simp only [bqa,bqb,bqc,bqd,reduceCtorEq,bqe,bqf] at hb)<;>(try omega))|refine zAm (by rfl) ?_ ?_|refine andS ?_|(refine ⟨fun hc=>?_,fun hc=>?_⟩)|(intro hc; try omega))
    rw [hfk]
    refine zI7 (b:=true) (by rfl) (fun _=>?_) (fun hb=>absurd hb (by decide))
    refine zMI (t:=AS.of [(8,.one (.box 8))] [] [(8,.rcd [.val (.sl (.sl .int)) (stepP a b c k),.val (.sl .int) (zB1 a b c k)])]) (by refine zAg ?_ ?_ ?_<;>simp only [push_cast,seval,reduceCtorEq,Int.cast_ofNat_Int]) ?_; obtain ⟨fs,hT⟩:=hT; refine zKl hE hT rfl ?_; simp +contextual only [hnl,↓kN,↓kP,↓kG,↓qN,↓qP,↓qG,push_cast,seval,reduceCtorEq,Int.cast_ofNat_Int]
   ·replace hnl:=And.intro hnl (show p (zB1 a b c k,nextN a b c (stepP a b c k),())=false from (Bool.not_eq_true _).mp he)
    have h17:=zJ1 a b c k
    have h18:=zMh a b c (Nat.le_refl k)
    have h19:=zH2 hm k hI.le
    repeat' (first|(refine goK (by assumption) ?_; iterate 4 (try clear hK K))|(refine zAc fun K hK=>?_)|((first|refine zAa hE rfl ?_|refine zAh ?_); simp +contextual only [hnl,↓kN,↓kP,↓kG,↓qN,↓qP,↓qG,push_cast,seval,reduceCtorEq,Int.cast_ofNat_Int])|refine zAd ?_|((first|refine zAf ?_|refine zAj ?_); simp only [thenQ,zAi,if_true,if_false,Nat.reduceEqDiff,reduceCtorEq])|(refine zAe (by rfl) (fun hb=>?_) (fun hb=>?_)<;>(try simp only [bqa,bqb,bqc,bqd,reduceCtorEq,bqe,bqf] at hb)<;>(try omega))|refine zAm (by rfl) ?_ ?_|refine andS ?_|(refine ⟨fun hc=>?_,fun hc=>?_⟩)|(intro hc; try omega))
    repeat' (first|(refine goP (by assumption) ?_; iterate 4 (try clear hK K))|(refine zEt fun K hK=>?_)|(refine zCg ?_; refine zAa hE rfl ?_; simp +contextual only [hnl,↓kN,↓kP,↓kG,↓qN,↓qP,↓qG,push_cast,seval,reduceCtorEq,Int.cast_ofNat_Int])|(refine zCg ?_; (refine zET hE 3 [0] rfl (by decide +kernel) ?_; simp only [List.length_cons,List.length_nil,Nat.reduceAdd,Nat.reduceSub,List.take_succ_cons,List.take_zero,List.drop_succ_cons,List.drop_zero,pickM,headM,List.filterMap_cons,List.filterMap_nil,List.getElem?_cons_zero,List.getElem?_cons_succ,List.contains_cons,List.contains_nil,Nat.reduceBEq,Bool.or_false,Bool.false_or,Bool.true_or,Bool.or_true,if_true,Bool.false_eq_true,if_false,List.cons_append,List.nil_append]; simp +contextual only [hnl,↓kN,↓kP,↓kG,↓qN,↓qP,↓qG,push_cast,seval,reduceCtorEq,Int.cast_ofNat_Int]))|first|(refine goK (by assumption) ?_; iterate 4 (try clear hK K))|(refine zAc fun K hK=>?_)|((first|refine zAa hE rfl ?_|refine zAh ?_); simp +contextual only [hnl,↓kN,↓kP,↓kG,↓qN,↓qP,↓qG,push_cast,seval,reduceCtorEq,Int.cast_ofNat_Int])|refine zAd ?_|((first|refine zAf ?_|refine zAj ?_); simp only [thenQ,zAi,if_true,if_false,Nat.reduceEqDiff,reduceCtorEq])|(refine zAe (by rfl) (fun hb=>?_) (fun hb=>?_)<;>(try simp only [bqa,bqb,bqc,bqd,reduceCtorEq,bqe,bqf] at hb)<;>(try omega))|refine zAm (by rfl) ?_ ?_|refine andS ?_|(refine ⟨fun hc=>?_,fun hc=>?_⟩)|(intro hc; try omega))
    refine zI7 (b:=false) (by rfl) (fun hb=>absurd hb (by decide)) (fun _=>zTi ?_)
    repeat' (first|(refine goP (by assumption) ?_; iterate 4 (try clear hK K))|(refine zEt fun K hK=>?_)|(refine zCg ?_; refine zAa hE rfl ?_; simp +contextual only [hnl,↓kN,↓kP,↓kG,↓qN,↓qP,↓qG,push_cast,seval,reduceCtorEq,Int.cast_ofNat_Int])|(refine zCg ?_; (refine zET hE 3 [0] rfl (by decide +kernel) ?_; simp only [List.length_cons,List.length_nil,Nat.reduceAdd,Nat.reduceSub,List.take_succ_cons,List.take_zero,List.drop_succ_cons,List.drop_zero,pickM,headM,List.filterMap_cons,List.filterMap_nil,List.getElem?_cons_zero,List.getElem?_cons_succ,List.contains_cons,List.contains_nil,Nat.reduceBEq,Bool.or_false,Bool.false_or,Bool.true_or,Bool.or_true,if_true,Bool.false_eq_true,if_false,List.cons_append,List.nil_append]; simp +contextual only [hnl,↓kN,↓kP,↓kG,↓qN,↓qP,↓qG,push_cast,seval,reduceCtorEq,Int.cast_ofNat_Int]))|first|(refine goK (by assumption) ?_; iterate 4 (try clear hK K))|(refine zAc fun K hK=>?_)|((first|refine zAa hE rfl ?_|refine zAh ?_); simp +contextual only [hnl,↓kN,↓kP,↓kG,↓qN,↓qP,↓qG,push_cast,seval,reduceCtorEq,Int.cast_ofNat_Int])|refine zAd ?_|((first|refine zAf ?_|refine zAj ?_); simp only [thenQ,zAi,if_true,if_false,Nat.reduceEqDiff,reduceCtorEq])|(refine zAe (by rfl) (fun hb=>?_) (fun hb=>?_)<;>(try simp only [bqa,bqb,bqc,bqd,reduceCtorEq,bqe,bqf] at hb)<;>(try omega))|refine zAm (by rfl) ?_ ?_|refine andS ?_|(refine ⟨fun hc=>?_,fun hc=>?_⟩)|(intro hc; try omega))
    have e2:(((zB1 a b c k).length:Int) - 1).toNat=k:=by omega
    have n4':0≤nextN a b c (stepP a b c k)∧nextN a b c (stepP a b c k)≤99:=⟨n4,n5⟩
    have hmx:=zO6 hm
    rw [e2,h18]
    refine ⟨by unfold InR; omega,⟨by omega,by omega⟩,by omega,by unfold InR; omega,rfl,by omega,?_⟩
    have e3:zB1 a b c k++[partV a b c k+nextN a b c (stepP a b c k)]=zB1 a b c (k+1):=(zNI a b c k).symm
    refine hL _ (k+1) ⟨by omega,fun m hmk=>?_⟩ (by omega) ?_
    ·rcases Nat.lt_or_ge m k with h|h
     ·exact hI.no m h
     ·obtain rfl:m=k:=by omega
      exact (Bool.not_eq_true _).mp he
    refine zAg ?_ ?_ ?_<;>simp only [push_cast,seval,reduceCtorEq,Int.cast_ofNat_Int]
    rw [e3]
    exact .inl rfl
  ·have hb0:bestV a b c (stepP a b c k)<0:=by
    have:=(hst.more hm).1
    omega
   obtain ⟨n2,_,_⟩:=zFB hm.hc hst.way hb0
   replace hnl:=And.intro hnl (And.intro hra (And.intro n2 (eq_false (show ¬0≤bestV a b c (stepP a b c k) by omega))))
   have hfk:zFa a b c p=k:=zPp hI.le hI.no (.inl (by have:=hI.le; omega))
   repeat' (first|(refine goK (by assumption) ?_; iterate 4 (try clear hK K))|(refine zAc fun K hK=>?_)|((first|refine zAa hE rfl ?_|refine zAh ?_); simp +contextual only [hnl,↓kN,↓kP,↓kG,↓qN,↓qP,↓qG,push_cast,seval,reduceCtorEq,Int.cast_ofNat_Int])|refine zAd ?_|((first|refine zAf ?_|refine zAj ?_); simp only [thenQ,zAi,if_true,if_false,Nat.reduceEqDiff,reduceCtorEq])|(refine zAe (by rfl) (fun hb=>?_) (fun hb=>?_)<;>(try simp only [bqa,bqb,bqc,bqd,reduceCtorEq,bqe,bqf] at hb)<;>(try omega))|refine zAm (by rfl) ?_ ?_|refine andS ?_|(refine ⟨fun hc=>?_,fun hc=>?_⟩)|(intro hc; try omega))
   repeat' (first|(refine goP (by assumption) ?_; iterate 4 (try clear hK K))|(refine zEt fun K hK=>?_)|(refine zCg ?_; refine zAa hE rfl ?_; simp +contextual only [hnl,↓kN,↓kP,↓kG,↓qN,↓qP,↓qG,push_cast,seval,reduceCtorEq,Int.cast_ofNat_Int])|(refine zCg ?_; (refine zET hE 3 [0] rfl (by decide +kernel) ?_; simp only [List.length_cons,List.length_nil,Nat.reduceAdd,Nat.reduceSub,List.take_succ_cons,List.take_zero,List.drop_succ_cons,List.drop_zero,pickM,headM,List.filterMap_cons,List.filterMap_nil,List.getElem?_cons_zero,List.getElem?_cons_succ,List.contains_cons,List.contains_nil,Nat.reduceBEq,Bool.or_false,Bool.false_or,Bool.true_or,Bool.or_true,if_true,Bool.false_eq_true,if_false,List.cons_append,List.nil_append]; simp +contextual only [hnl,↓kN,↓kP,↓kG,↓qN,↓qP,↓qG,push_cast,seval,reduceCtorEq,Int.cast_ofNat_Int]))|first|(refine goK (by assumption) ?_; iterate 4 (try clear hK K))|(refine zAc fun K hK=>?_)|((first|refine zAa hE rfl ?_|refine zAh ?_); simp +contextual only [hnl,↓kN,↓kP,↓kG,↓qN,↓qP,↓qG,push_cast,seval,reduceCtorEq,Int.cast_ofNat_Int])|refine zAd ?_|((first|refine zAf ?_|refine zAj ?_); simp only [thenQ,zAi,if_true,if_false,Nat.reduceEqDiff,reduceCtorEq])|(refine zAe (by rfl) (fun hb=>?_) (fun hb=>?_)<;>(try simp only [bqa,bqb,bqc,bqd,reduceCtorEq,bqe,bqf] at hb)<;>(try omega))|refine zAm (by rfl) ?_ ?_|refine andS ?_|(refine ⟨fun hc=>?_,fun hc=>?_⟩)|(intro hc; try omega))
   rw [hfk]
   refine zI7 (b:=true) (by rfl) (fun _=>?_) (fun hb=>absurd hb (by decide))
   refine zMI (t:=AS.of [(8,.one (.box 8))] [] [(8,.rcd [.val (.sl (.sl .int)) (stepP a b c k),.val (.sl .int) (zB1 a b c k)])]) (by refine zAg ?_ ?_ ?_<;>simp only [push_cast,seval,reduceCtorEq,Int.cast_ofNat_Int]) ?_; obtain ⟨fs,hT⟩:=hT; refine zKl hE hT rfl ?_; simp +contextual only [hnl,↓kN,↓kP,↓kG,↓qN,↓qP,↓qG,push_cast,seval,reduceCtorEq,Int.cast_ofNat_Int]
end Go.Proofs.YtlgkplnifaoeeaaGreatDoor
namespace Go.Proofs.YtlgkplnifaoeeaaGreatDoor
open Go.RowKit Go.VS Go.OT
theorem zU5 (xt:TypeId) (v:Value) (w:World):(Instr.typeAssert (.iface 183 v) xt 183 true).run Tryz.prog w=.ok (.tuple #[v,.bool true]) w:=by
 have hu:=run_underlying (P:=Tryz.prog) Tryz.underlying183 w
 simp [Instr.typeAssert,hu]
theorem zTn {w:World} {g:Nat} {t:TypeId} {x y:Value} (h:w.heap[g]?=some (.cells #[x,y] t (0,0))) (u v:Value) :
 w.cell? ⟨g,0,none⟩=some x∧w.frozen? ⟨g,0,none⟩=false∧(w.setCell ⟨g,0,none⟩ u).cell? ⟨g,1,none⟩=some y∧(w.setCell ⟨g,0,none⟩ u).frozen? ⟨g,1,none⟩=false ∧
 ((w.setCell ⟨g,0,none⟩ u).setCell ⟨g,1,none⟩ v).heap[g]?=some (.cells #[u,v] t (0,0))∧Keep (fun k=>k=g) w ((w.setCell ⟨g,0,none⟩ u).setCell ⟨g,1,none⟩ v):=by
 have e1:w.setCell ⟨g,0,none⟩ u=w.setRow g #[u,y]:=setCell_eq_setRow w g 0 #[x,y] t (0,0) u h
 have h1:(w.setRow g #[u,y]).heap[g]?=some (.cells #[u,y] t (0,0)):=setRow_heap w g _ _ t _ h
 have e2:(w.setRow g #[u,y]).setCell ⟨g,1,none⟩ v=(w.setRow g #[u,y]).setRow g #[u,v]:=setCell_eq_setRow _ g 1 #[u,y] t (0,0) v h1
 rw [e1,e2]
 refine ⟨by simp [World.cell?,h],by simp [World.frozen?,h],by simp [World.cell?,h1],by simp [World.frozen?,h1],setRow_heap _ g _ _ t _ h1,⟨rfl,rfl,rfl,by simp [World.setRow],fun k hk hne=>?_⟩⟩
 rw [setRow_other _ g k _ hne,setRow_other _ g k _ hne]
theorem zNb (b:Nat) (a1 a2:Option Addr) (n1 c1 n2 c2:Nat) (w:World) (t:TypeId) (x y:Value) (hb:w.heap[b]?=some (.cells #[x,y] t (0,0))) :
 CallsD Tryz.prog 215 #[.pointer (some ⟨b,0,none⟩)] (.panicking [{v:=.iface 183 (.agg #[.slice a1 n1 c1,.slice a2 n2 c2]),recovered:=false}]) w fun e u' w' =>
  e=.returned (.tuple #[])∧u'=.panicking [{v:=.iface 183 (.agg #[.slice a1 n1 c1,.slice a2 n2 c2]),recovered:=true}] ∧
  Keep (fun k=>k=b) w w'∧w'.heap[b]?=some (.cells #[.slice a1 n1 c1,.slice a2 n2 c2] t (0,0)):=by
 refine callsD_of_wpS Tryz.func215 rfl fun c₀ cs hu=>?_
 apply wpS_seq
 apply wpS_region
 simp [wpOpsS,go_sem,recoverD,hu,Tryz.ntmps215,Exit.thenS]
 apply wpS_seq
 apply wpS_region
 simp [wpOpsS,go_sem,Exit.thenS,zU5]
 have hblt:b<w.heap.size:=(Array.getElem?_eq_some_iff.1 hb).1
 have h1:(w.alloc (.cells #[.slice a1 n1 c1,.slice a2 n2 c2] 183)).heap[w.heap.size]?=some (.cells #[.slice a1 n1 c1,.slice a2 n2 c2] 183 (0,0)):=by simp only [World.alloc,Array.getElem?_push,if_true]
 have h2:(w.alloc (.cells #[.slice a1 n1 c1,.slice a2 n2 c2] 183)).heap[b]?=some (.cells #[x,y] t (0,0)):=by
  simp only [World.alloc,Array.getElem?_push]
  rw [if_neg (by omega)]
  exact hb
 obtain ⟨W,hW⟩:∃ W,W=w.alloc (.cells #[.slice a1 n1 c1,.slice a2 n2 c2] 183):=⟨_,rfl⟩
 have hkW:Keep (fun k=>k=b) w W:=by
  rw [hW]
  exact ⟨rfl,rfl,rfl,by simp only [World.alloc,Array.size_push]; omega,fun k hk _=>by simp only [World.alloc,Array.getElem?_push]; rw [if_neg (by omega)]⟩
 rw [←hW] at h1 h2 ⊢
 have l0:W.cell? ⟨w.heap.size,0,none⟩=some (.slice a1 n1 c1):=by simp [World.cell?,h1]
 have l1:W.cell? ⟨w.heap.size,1,none⟩=some (.slice a2 n2 c2):=by simp [World.cell?,h1]
 obtain ⟨e1,e2,e3,e4,e5,e6⟩:=zTn h2 (.slice a1 n1 c1) (.slice a2 n2 c2)
 apply wpS_seq
 apply wpS_seq
 apply wpS_region
 simp [wpOpsS,go_sem,Exit.thenS]
 refine wpS_cond (t:=false) (by simp [Act.eval,Array.replicate]) ?_
 simp only [Bool.false_eq_true,if_false]
 refine wpS_of_wp (wp_skip ?_)
 simp only [Exit.thenS]
 apply wpS_region
 simp [wpOpsS,go_sem,Exit.thenS,l0,l1,e1,e2,e3,e4,bodyPostS,results,Tryz.results215]
 exact ⟨hkW.step e6 (fun k hk _=>hk),e5⟩
@[push_cast] def zSh:Con:=⟨zPk,fun (x:zRe)=>MC x.1 x.2.1 x.2.2.1∧∀ y,x.2.2.2.1.1 y,
 fun (x:zRe)=>{res:=[.val (.prod (.sl (.sl .int)) (.sl .int)) (stepP x.1 x.2.1 x.2.2.1 (zFa x.1 x.2.1 x.2.2.1 x.2.2.2.1.2),zB1 x.1 x.2.1 x.2.2.1 (zFa x.1 x.2.1 x.2.2.1 x.2.2.2.1.2))]}⟩
set_option maxRecDepth 20000 in
theorem zSi:FnSpec Tryz.prog 182 zSh:=by
 refine ⟨⟨_,Tryz.func182,by kernel_rfl,rfl⟩,fun C γ x vs hpre hen=>?_⟩
 have hP:=hen.P
 have hlt:=hen.ownlt
 obtain ⟨hm,hq⟩:=hpre
 have hargs:=hen.args
 obtain ⟨(a:List Int),(b:List Int),(c:List (List Int)),⟨(q:List Int×Int×Unit→Prop),(p:List Int×Int×Unit→Bool)⟩,_⟩:=x
 dsimp only at hm hq
 obtain ⟨va,_,rfl,ha,vb,_,rfl,hb,vc,_,rfl,hc,vf,_,rfl,hf,rfl⟩:=hargs
 have hmf:∀ (fn:Fn) (first cap:Array Value) (w:World),(Instr.makeFunc fn first cap).run Tryz.prog w=.ok (.func fn first cap) w:=fun _ _ _ _=>rfl
 show Calls _ _ #[va,vb,vc,vf] C.w0 _
 obtain ⟨w,hw⟩:∃ w,w=C.w0:=⟨_,rfl⟩
 obtain ⟨W,hW⟩:∃ W,W=w.alloc (.cells #[.slice none 0 0,.slice none 0 0] 183):=⟨_,rfl⟩
 have hsz:W.heap.size=w.heap.size+1:=by rw [hW]; simp only [World.alloc,Array.size_push]
 have hold:∀ k,k<w.heap.size→W.heap[k]?=w.heap[k]?:=fun k hk=>by rw [hW]; simp only [World.alloc,Array.getElem?_push]; rw [if_neg (by omega)]
 have hnew:W.heap[w.heap.size]?=some (.cells #[.slice none 0 0,.slice none 0 0] 183 (0,0)):=by rw [hW]; simp only [World.alloc,Array.getElem?_push,if_true]
 have hkW:∀ L,Keep L w W:=fun L=>⟨by rw [hW]; rfl,by rw [hW]; rfl,by rw [hW]; rfl,by omega,fun k hk _=>hold k hk⟩
 let C1:Ctx:=⟨Tryz.prog,fun _=>False,W,fun b=>C.zn γ b∧b<w.heap.size,0,fun _=>undef,fun _=>0,[]⟩
 let γ1:Gam:=⟨fun _=>⟨none,0,0⟩,fun _ _=>⟨none,0,0⟩,fun _=>0,fun _=>none⟩
 have hmono:∀ (s:Sh) (x:s.T) v,vrep w (C.zn γ) s x v→vrep W (C1.zn γ1) s x v:=fun s x v ⟨cs,h1,h2⟩=>⟨cs,zAx (by omega) (fun b hb hz=>⟨⟨.inl ⟨hz,hb⟩,rfl⟩,hold b hb⟩) s x cs h1,h2⟩
 rw [←hw] at ha hb hc
 have hf':FnOK C1.P C1.L C1.w0 [.sl .int,.int] .bool q p vf:=by
  obtain ⟨f,pre,caps,e1,e2,e3⟩:=hf
  rw [hP] at e2 e3
  exact ⟨f,pre,caps,e1,e2,fun w1 Z x vs hk hg hqx hargs=>e3 w1 Z x vs (by rw [←hw]; exact (hkW C.L).step hk (fun b hb _=>hb.elim)) hg hqx hargs⟩
 have hgd:Gd C1.P C1.w0:=by
  have h1:=hen.ds.2.gd
  rw [hP,←hw] at h1
  exact h1.later (hkW _)
 have hcall:=zQO C1 γ1 (a,b,c,(q,p),()) [va,vb,vc,vf] hm hq ⟨rfl,rfl,⟨rfl,hgd,fun k hk=>hk.elim⟩,fun r hr=>absurd hr (Nat.not_lt_zero _),fun k l h=>(by cases h),⟨va,_,rfl,hmono _ _ _ ha,vb,_,rfl,hmono _ _ _ hb,vc,_,rfl,hmono _ _ _ hc,vf,_,rfl,hf',rfl⟩,fun p hp=>(by cases hp),fun p hp=>(by cases hp)⟩
 rw [←hw]
 go_enter_defers Tryz.func182,Tryz.ntmps182
 rw [show [va,vb,vc,vf].toArray=#[va,vb,vc,vf] from rfl] at hcall
 have hcall':Calls Tryz.prog 216 #[va,vb,vc,vf] (C.w0.alloc (.cells #[.slice none 0 0,.slice none 0 0] 183)) (fun e w'=>∃ ch,e=.panicked ch∧zH9 C1 183 (.sl (.sl .int)) (.sl .int) (stepP a b c (zFa a b c p)) (zB1 a b c (zFa a b c p)) ch w'):=by rw [←hw,←hW]; exact hcall
 go_wp2_with (go_at_call 216; refine hcall'.mono ?_; rintro e w2 ⟨ch,rfl,g1,u,v,rfl,⟨cu,hu,rfl⟩,⟨cv,hv,rfl⟩,hk⟩)
 rw [←hw]
 have hu':=hu
 have hv':=hv
 obtain ⟨a1,c1,rfl,_⟩:=hu'
 obtain ⟨a2,c2,rfl,_⟩:=hv'
 have hb2:w2.heap[w.heap.size]?=some (.cells #[.slice none 0 0,.slice none 0 0] 183 (0,0)):=(hk.block w.heap.size (show w.heap.size<W.heap.size by omega) (fun h=>h)).trans hnew
 have hk2:Keep C.L w w2:=(hkW C.L).step hk (fun b hb _=>hb.elim)
 have hmono2:∀ (w3:World),Keep (fun k=>k=w.heap.size) w2 w3→∀ (s:Sh) (x:s.T) cs,pers w2 (C1.zn g1) s x cs→pers w3 (C.zn γ) s x cs:=fun w3 hk3 s x cs hx=>by
  refine zAx hk3.size (fun b hb hz=>?_) s x cs hx
  obtain ⟨hz1,_⟩:=hz
  rcases hz1 with ⟨h1,h2⟩|h1|h1
  ·exact ⟨h1,hk3.block b hb (by omega)⟩
  ·have h1':W.heap.size≤b:=h1
   refine ⟨⟨.inr (.inl (by rw [←hw]; omega)),?_⟩,hk3.block b hb (by omega)⟩
   cases ho:γ.own b with
   | none=>rfl
   | some l=>exact absurd (hlt b l ho) (by rw [←hw]; omega)
  ·exact h1.elim
 show Leaves Tryz.prog _ _ _ _ (.panicking _) w2
 refine leaves_cons (f:=215) (args:=#[.pointer (some ⟨w.heap.size,0,none⟩)]) (by simp) (by simp [go_sem]) ?_
 refine (zNb w.heap.size a1 a2 _ c1 _ c2 w2 _ _ _ hb2).mono ?_
 rintro e u' w3 ⟨rfl,rfl,hk3,hc3⟩
 have k0:w3.cell? ⟨w.heap.size,0,none⟩=some (.slice a1 (stepP a b c (zFa a b c p)).length c1):=by simp [World.cell?,hc3]
 have k1:w3.cell? ⟨w.heap.size,1,none⟩=some (.slice a2 (zB1 a b c (zFa a b c p)).length c2):=by simp [World.cell?,hc3]
 have hu3:=hmono2 w3 hk3 _ _ _ hu
 have hv3:=hmono2 w3 hk3 _ _ _ hv
 have hkeep:Keep C.L w w3:=hk2.step hk3 (fun b hb hlt=>absurd hlt (by omega))
 simp [Leaves,settle,results,Tryz.results182,go_sem,k0,k1]
 exact ⟨⟨γ,⟨[],[],[_],rfl,⟨_,[],rfl,⟨_,⟨_,_,rfl,hu3,hv3⟩,rfl⟩,rfl,rfl,rfl⟩,List.nodup_nil,List.nodup_nil⟩,fun p hp=>absurd hp (List.not_mem_nil),fun p hp=>absurd hp (List.not_mem_nil),fun k l hl=>by have h1:=hlt k l hl; rw [←hw] at h1; have:=hkeep.size; omega⟩,hkeep⟩
end Go.Proofs.YtlgkplnifaoeeaaGreatDoor
namespace Go.Proofs.YtlgkplnifaoeeaaGreatDoor
open Go.RowKit Go.VS Go.OT
theorem zBr (l:List Int):lsum l=sumL l:=by
 have key:∀ k,k≤l.length→lsum (l.take k)=sg k (ga l):=by
  intro k
  induction k with
  | zero=>intro _; simp [lsum,sg]
  | succ k ih =>
   intro hk
   rw [zB6 l k (by omega),ih (by omega)]
   rfl
 have:=key l.length (Nat.le_refl _)
 rwa [List.take_length] at this
def errW (w:Int):Int:=if 0≤w∧w≤99 then 0 else 1
def errWd (a b:List Int) (c:List (List Int)) (w:Int):Int:=if zDi a b c=0 then errW w else zDi a b c
theorem zYc (a b:List Int) (c:List (List Int)) (w:Int):orV [zDi a b c,errW w]=errWd a b c w:=by
 unfold errWd
 simp only [zEO,zII]
 split
 ·split
  ·rename_i h; exact h.symm
  ·rfl
 ·rfl
theorem zCo {a b:List Int} {c:List (List Int)} {w:Int} (h:errWd a b c w=0):ForOK a b c∧0≤w∧w≤99:=by
 unfold errWd at h
 split at h
 ·rename_i h1
  refine ⟨zRO h1,?_⟩
  unfold errW at h
  split at h
  ·assumption
  ·omega
 ·rename_i h1; exact absurd h h1
theorem zEM:FnSpec Tryz.prog 143 zPt:=by
 refine FnSpec.of_tri' (E:=know [] [] [] []) (zAl all_nil all_nil all_nil) Tryz.func143 rfl rfl (by kernel_rfl) ?_
 intro C x hE hnl hfit hpre
 simp only [Tryz.ntmps143,Tryz.results143,maxLen,seval,push_cast] at hnl hfit hpre ⊢
 obtain ⟨(l:List Int),_⟩:=x
 dsimp only at hfit hpre ⊢
 repeat' (first|(refine goK (by assumption) ?_; iterate 4 (try clear hK K))|(refine zAc fun K hK=>?_)|(refine zAa hE rfl ?_; simp +contextual only [hnl,↓kN,↓kP,↓kG,↓qN,↓qP,↓qG,push_cast,seval,reduceCtorEq,Int.cast_ofNat_Int])|refine zAd ?_|fail)
 refine zAk (fun k:Nat=>AS.of [(0,.one (.val (.sl .int) l)),(3,.I (lsum (l.take k))),(6,.one (.val (.sl .int) l)),(7,.I l.length),(8,.I k)] [] []) (fun k=>k≤l.length) (fun k=>l.length - k) 0 (Nat.zero_le _) ?_ ?_
 ·refine zAg ?_ ?_ ?_<;>simp only [push_cast,seval,reduceCtorEq,Int.cast_ofNat_Int]
  simp [lsum]
 intro k hk K' hL
 repeat' (first|(refine goK (by assumption) ?_; iterate 4 (try clear hK K))|(refine zAc fun K hK=>?_)|((first|refine zAa hE rfl ?_|refine zAh ?_); simp +contextual only [hnl,↓kN,↓kP,↓kG,↓qN,↓qP,↓qG,push_cast,seval,reduceCtorEq,Int.cast_ofNat_Int])|refine zAd ?_|((first|refine zAf ?_|refine zAj ?_); simp only [thenQ,zAi,if_true,if_false,Nat.reduceEqDiff,reduceCtorEq])|(refine zAe (by rfl) (fun hb=>?_) (fun hb=>?_)<;>(try simp only [bqa,bqb,bqc,bqd,reduceCtorEq,bqe,bqf] at hb)<;>(try omega))|refine andS ?_|fail)
 ·refine ⟨by rw [←zB6 l k (by omega)]; exact hpre _,?_⟩
  repeat' (first|(refine goK (by assumption) ?_; iterate 4 (try clear hK K))|(refine zAa hE rfl ?_; simp +contextual only [hnl,↓kN,↓kP,↓kG,↓qN,↓qP,↓qG,push_cast,seval,reduceCtorEq,Int.cast_ofNat_Int])|refine andS ?_|fail)
  refine hL _ (k+1) (by omega) (by omega) ?_
  refine zAg ?_ ?_ ?_<;>simp only [push_cast,seval,reduceCtorEq,Int.cast_ofNat_Int]
  exact (zB6 l k (by omega)).symm
 ·obtain rfl:k=l.length:=by omega
  simp
theorem zL3:FnSpec Tryz.prog 181 zEv:=by
 refine FnSpec.of_tri' (E:=know [] [] [] []) (zAl all_nil all_nil all_nil) Tryz.func181 rfl rfl (by kernel_rfl) ?_
 intro C x hE hnl hfit hpre
 simp only [Tryz.ntmps181,Tryz.results181,maxLen,seval,push_cast] at hnl hfit hpre ⊢
 obtain ⟨(n:Int),(lo:Int),(hi:Int),_⟩:=x
 dsimp only at hfit hpre ⊢
 repeat' (first|(refine goK (by assumption) ?_; iterate 4 (try clear hK K))|(refine zAc fun K hK=>?_)|((first|refine zAa hE rfl ?_|refine zAh ?_); simp +contextual only [hnl,↓kN,↓kP,↓kG,↓qN,↓qP,↓qG,push_cast,seval,reduceCtorEq,Int.cast_ofNat_Int])|(refine ⟨fun hc=>?_,fun hc=>?_⟩)|fail)
 all_goals first|omega|(simp only [decide_eq_decide]; omega)|(simp only [hc,decide_true,decide_false,Bool.true_or,Bool.false_or]; done)|(simp; done)|(simp; omega)|(simp [*]; done)|(simp [*]; omega)
@[push_cast] def zVt:Con:=⟨[.dat .int],fun _=>True,fun (x:Int×Unit)=>{res:=[.val .int (errW x.1)]}⟩
theorem zHu:FnSpec Tryz.prog 140 zVt:=by
 refine FnSpec.of_tri' (E:=know _ [] [] []) (zAl (kc zL3 all_nil) all_nil all_nil) Tryz.func140 rfl rfl (by kernel_rfl) ?_
 intro C x hE hnl hfit hpre
 simp only [Tryz.ntmps140,Tryz.results140,maxLen,seval,push_cast] at hnl hfit hpre ⊢
 obtain ⟨(w:Int),_⟩:=x
 dsimp only at hfit hpre ⊢
 repeat' (first|(refine goK (by assumption) ?_; iterate 4 (try clear hK K))|(refine zAc fun K hK=>?_)|((first|refine zAa hE rfl ?_|refine zAh ?_); simp +contextual only [hnl,↓kN,↓kP,↓kG,↓qN,↓qP,↓qG,push_cast,seval,reduceCtorEq,Int.cast_ofNat_Int])|(refine zAf ?_; simp only [thenQ,zAi,if_true,if_false,Nat.reduceEqDiff,reduceCtorEq])|(refine zAe (by rfl) (fun hb=>?_) (fun hb=>?_)<;>(try simp only [bqa,bqb,bqc,bqd,reduceCtorEq,bqe,bqf] at hb)<;>(try omega))|fail)
 all_goals first|exact (if_neg (by omega)).symm|exact (if_pos (by omega)).symm
theorem zQo:FnSpec Tryz.prog 139 zVq:=by
 refine FnSpec.of_tri' (E:=know _ [] [] []) (zAl (kc zKm (kc zFD (kc zIJ all_nil))) all_nil all_nil) Tryz.func139 rfl rfl (by kernel_rfl) ?_
 intro C x hE hnl hfit hpre
 simp only [Tryz.ntmps139,Tryz.results139,maxLen,seval,push_cast] at hnl hfit hpre ⊢
 obtain ⟨(a:List Int),(b:List Int),(c:List (List Int)),_⟩:=x
 dsimp only at hfit hpre ⊢
 have hA:orV [zAu a,zAu b,zAs c]=0→0<c.length:=fun h=>by have:=(zAK (zHZ h).2.2).rows; omega
 have hW:orV [zAu a,zAu b,zAs c]=0→c.length=a.length→(c.getD 0 []).length=b.length→ForOK a b c:=fun h h1 h2 =>
  ⟨zFt (zHZ h).1,zFt (zHZ h).2.1,zAK (zHZ h).2.2,h1,h2⟩
 repeat' (first|(refine goK (by assumption) ?_; iterate 4 (try clear hK K))|(refine zAc fun K hK=>?_)|((first|refine zAa hE rfl ?_|refine zAh ?_); simp +contextual only [hnl,↓kN,↓kP,↓kG,↓qN,↓qP,↓qG,push_cast,seval,reduceCtorEq,Int.cast_ofNat_Int])|(refine zAf ?_; simp only [thenQ,zAi,if_true,if_false,Nat.reduceEqDiff,reduceCtorEq])|(refine zAe (by rfl) (fun hb=>?_) (fun hb=>?_)<;>(try simp only [bqa,bqb,bqc,bqd,reduceCtorEq,bqe,bqf] at hb)<;>(try omega))|refine andS ?_|(refine ⟨fun hc=>?_,fun hc=>?_⟩)|fail)
 ·exact zWC hb
 ·exact zOP (by omega)
 ·exact (zKM (hW (by assumption) (by omega) (by omega))).symm
 ·exact zOO (by omega)
@[push_cast] def zMS:Con:=⟨[.dat (.sl .int),.dat (.sl .int),.dat (.sl (.sl .int)),.dat .int],fun _=>True,fun (x:List Int×List Int×List (List Int)×Int×Unit)=>{res:=[.val .int (errWd x.1 x.2.1 x.2.2.1 x.2.2.2.1)]}⟩
theorem zDS:FnSpec Tryz.prog 93 zMS:=by
 refine FnSpec.of_tri' (E:=know _ [] [] []) (zAl (kc zQo (kc zHu (kc zIJ all_nil))) all_nil all_nil) Tryz.func93 rfl rfl (by kernel_rfl) ?_
 intro C x hE hnl hfit hpre
 simp only [Tryz.ntmps93,Tryz.results93,maxLen,seval,push_cast] at hnl hfit hpre ⊢
 obtain ⟨(a:List Int),(b:List Int),(c:List (List Int)),(w:Int),_⟩:=x
 dsimp only at hfit hpre ⊢
 have h0:=zYc a b c w
 replace hnl:=And.intro hnl h0
 exact auB
@[push_cast] def zRm:Con:=⟨[.dat (.sl .int),.dat .int,.ptr .int],fun (x:List Int×Int×Int×Unit)=>0≤x.2.2.1∧x.2.2.1≤99,fun (x:List Int×Int×Int×Unit)=>{res:=[.val .bool (decide (2*x.2.2.1≤x.2.1))]}⟩
@[push_cast] def zLr:Clo:=⟨[.int],[.sl .int,.int],.bool,fun (y:Int×Unit) _=>0≤y.1∧y.1≤99,fun (y:Int×Unit) (x:List Int×Int×Unit)=>decide (2*y.1≤x.2.1)⟩
theorem zRn:FnSpec Tryz.prog 183 zRm:=by
 refine FnSpec.of_tri' (E:=know [] [] [] []) (zAl all_nil all_nil all_nil) Tryz.func183 rfl rfl (by kernel_rfl) ?_
 intro C x hE hnl hfit hpre
 simp only [Tryz.ntmps183,Tryz.results183,maxLen,seval,push_cast] at hnl hfit hpre ⊢
 obtain ⟨(l:List Int),(n:Int),(w:Int),_⟩:=x
 dsimp only at hfit hpre ⊢
 exact auB
theorem zNc:CloSpec Tryz.prog 183 zLr:=CloSpec.of zRn
@[push_cast] def zR6:Con:=⟨[.dat (.sl .int),.dat (.sl .int),.dat (.sl (.sl .int)),.dat .int],fun (x:List Int×List Int×List (List Int)×Int×Unit)=>MC x.1 x.2.1 x.2.2.1∧0≤x.2.2.2.1∧x.2.2.2.1≤99,
 fun (x:List Int×List Int×List (List Int)×Int×Unit)=>{res:=[.val (.prod (.sl (.sl .int)) (.sl .int)) (stepP x.1 x.2.1 x.2.2.1 (fewK x.1 x.2.1 x.2.2.1 x.2.2.2.1),zB1 x.1 x.2.1 x.2.2.1 (fewK x.1 x.2.1 x.2.2.1 x.2.2.2.1))]}⟩
theorem zRU (a b:List Int) (c:List (List Int)) (w:Int):zFa a b c (fun x=>decide (2*w≤x.2.1))=fewK a b c w:=rfl
theorem zIv:FnSpec Tryz.prog 141 zR6:=by
 refine FnSpec.of_tri' (E:=know [(182,zSh)] [(183,zLr)] [] []) (zAl (all_cons zSi all_nil) (all_cons zNc all_nil) all_nil) Tryz.func141 rfl rfl (by kernel_rfl) ?_
 intro C x hE hnl hfit hpre
 simp only [Tryz.ntmps141,Tryz.results141,maxLen,seval,push_cast] at hnl hfit hpre ⊢
 obtain ⟨(a:List Int),(b:List Int),(c:List (List Int)),(w:Int),_⟩:=x
 dsimp only at hfit hpre ⊢
 obtain ⟨hm,h0,h99⟩:=hpre
 replace hnl:=And.intro hnl (And.intro hm (And.intro h0 (And.intro h99 (zRU a b c w))))
 exact auB
structure FullP (a b:List Int) (w k u:Int):Prop where
 sa:∀ m,InR (lsum (a.take m))
 sb:∀ m,InR (lsum (b.take m))
 la:0≤lsum a∧lsum a≤1200
 lb:0≤lsum b∧lsum b≤1200
 w:0≤w∧w≤99
 k:0≤k∧k≤100000000000
 u:0≤u∧u≤100000000000
theorem MC.sums {a b:List Int} {c:List (List Int)} (h:ForOK a b c):(∀ m,InR (lsum (a.take m)))∧(∀ m,InR (lsum (b.take m)))∧(0≤lsum a∧lsum a≤1200)∧(0≤lsum b∧lsum b≤1200):=by
 have hm:=h.mc
 have h1:sumL a≤a.length*200:=zMw _ fun i hi=>(hm.ha.at hi).2
 have h2:sumL b≤b.length*200:=zMw _ fun i hi=>(hm.hb.at hi).2
 have:=hm.sum_nn
 have:=hm.a5
 have:=hm.b5
 rw [zBr,zBr]
 exact ⟨zJZ h.ha,zJZ h.hb,by omega,by omega⟩
@[push_cast] def zWb:Con:=⟨[.dat (.sl .int),.dat (.sl .int),.dat .int,.dat .int,.dat .int],fun (x:List Int×List Int×Int×Int×Int×Unit)=>FullP x.1 x.2.1 x.2.2.1 x.2.2.2.1 x.2.2.2.2.1,
 fun (x:List Int×List Int×Int×Int×Int×Unit)=>{res:=[.val .int (x.2.2.2.1+x.2.2.1*(lsum x.1+lsum x.2.1 - 2*x.2.2.2.2.1))]}⟩
theorem zSt {w x:Int} (h:0≤w∧w≤99) (hx : -1000000000000≤x∧x≤1000000000000) : -99000000000000≤w*x∧w*x≤99000000000000:=by
 obtain ⟨n,rfl⟩:∃ n:Nat,w=n:=⟨w.toNat,by omega⟩
 have key:∀ n:Nat,-(n*1000000000000:Int)≤n*x∧(n*x:Int)≤n*1000000000000:=by
  intro n
  induction n with
  | zero=>simp
  | succ n ih =>
   rw [Int.natCast_add,Int.add_mul,Int.add_mul]
   omega
 have:=key n
 omega
theorem zIq:FnSpec Tryz.prog 97 zWb:=by
 refine FnSpec.of_tri' (E:=know _ [] [] []) (zAl (kc zEM all_nil) all_nil all_nil) Tryz.func97 rfl rfl (by kernel_rfl) ?_
 intro C x hE hnl hfit hpre
 simp only [Tryz.ntmps97,Tryz.results97,maxLen,seval,push_cast] at hnl hfit hpre ⊢
 obtain ⟨(a:List Int),(b:List Int),(w:Int),(k:Int),(u:Int),_⟩:=x
 dsimp only at hfit hpre ⊢
 obtain ⟨h1,h2,h3,h4,h5,h6,h7⟩:=hpre
 have h8:=zSt h5 (x:=lsum a+lsum b - 2*u) (by omega)
 replace hnl:=And.intro hnl (And.intro (fun m=>eq_true (h1 m)) (fun m=>eq_true (h2 m)))
 exact auB
@[push_cast] def zL0:Con:=⟨[.dat (.sl .int),.dat (.sl .int),.dat (.sl (.sl .int)),.dat .int],fun (x:List Int×List Int×List (List Int)×Int×Unit)=>ForOK x.1 x.2.1 x.2.2.1∧0≤x.2.2.2.1∧x.2.2.2.1≤99,
 fun (x:List Int×List Int×List (List Int)×Int×Unit)=>{res:=[.val .int (zBZ x.1 x.2.1 x.2.2.1 x.2.2.2.1)]}⟩
theorem zNx:FnSpec Tryz.prog 94 zL0:=by
 refine FnSpec.of_tri' (E:=know _ [] [] []) (zAl (kc zIv (kc zIq all_nil)) all_nil all_nil) Tryz.func94 rfl rfl (by kernel_rfl) ?_
 intro C x hE hnl hfit hpre
 simp only [Tryz.ntmps94,Tryz.results94,maxLen,seval,push_cast] at hnl hfit hpre ⊢
 obtain ⟨(a:List Int),(b:List Int),(c:List (List Int)),(w:Int),_⟩:=x
 dsimp only at hfit hpre ⊢
 obtain ⟨hf,h0,h99⟩:=hpre
 have hm:=hf.mc
 have hk:=(zGl hm w).1
 have hl:=zJ1 a b c (fewK a b c w)
 have hmx:=zO6 hm
 have hpb:=zH2 hm _ hk
 obtain ⟨s1,s2,s3,s4⟩:=MC.sums hf
 have e2:(((zB1 a b c (fewK a b c w)).length:Int) - 1)=(fewK a b c w:Nat):=by omega
 have e3:=zMh a b c (Nat.le_refl (fewK a b c w))
 have hfp:FullP a b w (partV a b c (fewK a b c w)) (fewK a b c w:Nat):=⟨s1,s2,s3,s4,⟨h0,h99⟩,by omega,by omega⟩
 have e4:partV a b c (fewK a b c w)+w*(lsum a+lsum b - 2*(fewK a b c w:Nat))=zBZ a b c w:=by rw [zBr,zBr]; rfl
 replace hnl:=And.intro hnl (And.intro hm (And.intro h0 (And.intro h99 (And.intro e2 (And.intro e3 (And.intro (eq_true hfp) e4))))))
 exact auB
end Go.Proofs.YtlgkplnifaoeeaaGreatDoor
namespace Go.Proofs.YtlgkplnifaoeeaaGreatDoor
open Go.RowKit Go.VS Go.OT
structure CatP (l:List (List Int)):Prop where
 n:l.length≤10
 row:∀ k,k<l.length→(l.getD k []).length≤100
 pos:0<l.flatten.length
def catK (l:List (List Int)) (k:Nat):List Int:=(l.take k).flatten
theorem zKD {l:List (List Int)} {k:Nat} (h:k<l.length):catK l (k+1)=catK l k++l.getD k []:=by
 unfold catK
 rw [List.take_succ_eq_append_getElem h,List.flatten_append]
 simp [List.getD_eq_getElem?_getD,h]
theorem CatP.le {l:List (List Int)} (h:CatP l):∀ k,k≤l.length→(catK l k).length≤100*k
 | 0,_=>by simp [catK]
 | k+1,hk=>by
  have:=h.le k (by omega)
  have:=h.row k (by omega)
  rw [zKD (by omega),List.length_append]
  omega
end Go.Proofs.YtlgkplnifaoeeaaGreatDoor
namespace Go.Proofs.YtlgkplnifaoeeaaGreatDoor
open Go.RowKit Go.VS Go.OT
def zA7 (a b:List Int) (c:List (List Int)) (w:Int):Int:=if errWd a b c w=0 then zBZ a b c w else 0
@[push_cast] def zLS:Con:=⟨[.dat (.sl .int),.dat (.sl .int),.dat (.sl (.sl .int)),.dat .int],fun _=>True,fun (x:List Int×List Int×List (List Int)×Int×Unit)=>{res:=[.val .int (zA7 x.1 x.2.1 x.2.2.1 x.2.2.2.1),.val .int (errWd x.1 x.2.1 x.2.2.1 x.2.2.2.1)]}⟩
theorem zIu:FnSpec Tryz.prog 49 zLS:=by
 refine FnSpec.of_tri' (E:=know _ [] [] []) (zAl (kc zDS (kc zNx all_nil)) all_nil all_nil) Tryz.func49 rfl rfl (by kernel_rfl) ?_
 intro C x hE hnl hfit hpre
 simp only [Tryz.ntmps49,Tryz.results49,maxLen,seval,push_cast] at hnl hfit hpre ⊢
 obtain ⟨(a:List Int),(b:List Int),(c:List (List Int)),(w:Int),_⟩:=x
 dsimp only at hfit hpre ⊢
 by_cases he:errWd a b c w=0
 ·have h1:=zCo he
  have h3:zA7 a b c w=zBZ a b c w:=if_pos he
  replace hnl:=And.intro hnl (And.intro he (And.intro h3 (And.intro h1.1 h1.2)))
  exact auB
 ·have h3:zA7 a b c w=0:=if_neg he
  replace hnl:=And.intro hnl (And.intro h3 (eq_false he))
  exact auB
end Go.Proofs.YtlgkplnifaoeeaaGreatDoor
namespace Go.Proofs.YtlgkplnifaoeeaaGreatDoor
open Go.RowKit Go.VS
abbrev Line:=ByteArray×Int
def lineV (before:Int) (x:Line):ByteArray:=itoaV (sumV before (textV x.2 x.1))++spS++textV x.2 x.1
structure LinePre (x:Line):Prop where
 order:x.1.size≤1000
 least:InR x.2
abbrev State:=List (List Int)×List Int×List Int×Int
@[push_cast] def zDI:Con:=⟨[.dat (.prod (.sl (.sl .int)) (.prod (.sl .int) (.prod (.sl .int) .int)))],fun _=>True,fun (x:State×Unit)=>{res:=[.val .int (zA7 x.1.2.1 x.1.2.2.1 x.1.1 x.1.2.2.2)]}⟩
theorem zEK:FnSpec Tryz.prog 81 zDI:=by
 refine FnSpec.of_tri' (E:=know _ [] [] []) (zAl (kc zIu all_nil) all_nil all_nil) Tryz.func81 rfl rfl (by kernel_rfl) ?_
 intro C x hE hnl hfit hpre
 simp only [Tryz.ntmps81,Tryz.results81,maxLen,seval,push_cast] at hnl hfit hpre ⊢
 obtain ⟨⟨(c:List (List Int)),(a:List Int),(b:List Int),(w:Int)⟩,_⟩:=x
 dsimp only at hfit hpre ⊢
 exact auC
end Go.Proofs.YtlgkplnifaoeeaaGreatDoor
