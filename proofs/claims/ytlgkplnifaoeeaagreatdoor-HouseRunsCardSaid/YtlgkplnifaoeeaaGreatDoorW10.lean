import Derived.Test.YtlgkplnifaoeeaaGreatDoorW9
set_option linter.unusedSimpArgs false
set_option linter.unusedVariables false
namespace Go.Proofs.YtlgkplnifaoeeaaGreatDoor
open Go.RowKit Go.VS
theorem zIN:∀ (l:List UInt8) (a v:Nat) (c:UInt8),Lib.parseUint10 a l=.ok v→48≤c.toNat→c.toNat≤57→v<1000000000000000000→Lib.parseUint10 a (l++[c])=.ok (v*10+(c.toNat - 48))
 | [],a,v,c,h,h1,h2,hv=>by
  simp only [Lib.parseUint10] at h
  injection h with h
  subst h
  simp only [List.nil_append,Lib.parseUint10]
  rw [if_pos ⟨h1,h2⟩,if_neg (by omega),if_neg (by omega)]
 | x::l,a,v,c,h,h1,h2,hv=>by
  simp only [List.cons_append,Lib.parseUint10] at h ⊢
  split at h
  ·rename_i hx
   rw [if_pos hx]
   split at h
   ·cases h
   ·rename_i h3
    rw [if_neg h3]
    split at h
    ·cases h
    ·rename_i h4
     rw [if_neg h4]
     exact zIN l _ v c h h1 h2 hv
  ·cases h
theorem zBR {d:Nat} (h:d<10):(UInt8.ofNat (48+d)).toNat=48+d:=by
 rw [UInt8.toNat_ofNat']; omega
theorem zSM (u:Nat):u<1000000000000000000→Lib.parseUint10 0 (Lib.decDigits u)=.ok u:=by
 induction u using Nat.strongRecOn with
 | _ u ih =>
  intro hu
  by_cases h:u<10
  ·rw [Lib.decDigits_one h]
   have:=zIN [] 0 0 (UInt8.ofNat (48+u)) rfl (by rw [zBR h]; omega) (by rw [zBR h]; omega) (by omega)
   rw [List.nil_append,zBR h] at this
   rw [this]
   congr 1
   omega
  ·rw [Lib.decDigits,dif_neg h]
   have hm:u % 10<10:=Nat.mod_lt _ (by omega)
   rw [zIN _ _ _ _ (ih (u / 10) (by omega) (by omega)) (by rw [zBR hm]; omega) (by rw [zBR hm]; omega) (by omega),zBR hm]
   congr 1
   omega
theorem zIl (u:Nat):∀ c∈Lib.decDigits u,48≤c.toNat∧c.toNat≤57:=by
 induction u using Nat.strongRecOn with
 | _ u ih =>
  intro c hc
  by_cases h:u<10
  ·rw [Lib.decDigits_one h,List.mem_singleton] at hc
   rw [hc,zBR h]
   omega
  ·rw [Lib.decDigits,dif_neg h] at hc
   rcases List.mem_append.1 hc with hc|hc
   ·exact ih (u / 10) (by omega) c hc
   ·rw [List.mem_singleton] at hc
    have hm:u % 10<10:=Nat.mod_lt _ (by omega)
    rw [hc,zBR hm]
    omega
theorem zRF (u:Nat):Lib.decDigits u≠[]:=by
 intro h
 have:=Lib.decDigits_length u
 rw [h] at this
 have h2:1≤Lib.nDigits u:=by rw [Lib.nDigits]; split<;>omega
 simp at this
 omega
theorem zTM (u:Nat):1≤u→((Lib.decDigits u).getD 0 0).toNat≠48:=by
 induction u using Nat.strongRecOn with
 | _ u ih =>
  intro hu
  by_cases h:u<10
  ·rw [Lib.decDigits_one h]
   show (UInt8.ofNat (48+u)).toNat≠48
   rw [zBR h]
   omega
  ·rw [Lib.decDigits,dif_neg h]
   have hl:0<(Lib.decDigits (u / 10)).length:=List.length_pos_iff.2 (zRF _)
   rw [List.getD_eq_getElem?_getD,List.getElem?_append_left hl,←List.getD_eq_getElem?_getD]
   exact ih (u / 10) (by omega) (by omega)
theorem zRh {n:Nat} (h:n<1000000000000000000):Lib.atoiAll (Lib.itoa (n:Int))=.ok (n:Int):=by
 rw [Lib.itoa_nonneg]
 cases hd:Lib.decDigits n with
 | nil=>exact absurd hd (zRF n)
 | cons c r =>
  have hc:=zIl n c (by rw [hd]; simp)
  have hp:=zSM n h
  unfold Lib.atoiAll
  dsimp only
  rw [if_neg (by omega:¬(c.toNat=43∨c.toNat=45)),Lib.parseMag,if_neg (by simp),←hd,hp]
  dsimp only
  rw [if_neg (by omega),if_neg (by omega),if_neg (by omega)]
theorem zG5 (n:Int):(itoaV n).data.toList=Lib.itoa n:=rfl
theorem zD8 {v:Int} (h0:0≤v) (h1:v≤1000000000):zDA (itoaV v)=true∧atoiV (itoaV v)=v:=by
 have e:Lib.atoiAll (itoaV v).data.toList=.ok v:=by
  rw [zG5]
  have:=zRh (n:=v.toNat) (by omega)
  rwa [Int.toNat_of_nonneg h0] at this
 unfold zDA atoiV
 rw [e]
 exact ⟨rfl,rfl⟩
theorem zOD {s:ByteArray} (h0:byteV s 0≠48):∀ {k:Nat},(∀ i,i<k+1→48≤byteV s i∧byteV s i≤57)→1≤decK s (k+1)
 | 0,h=>by
  have:=h 0 (by omega)
  show 1≤10*decK s 0+((byteV s 0:Int) - 48)
  have e:decK s 0=0:=rfl
  omega
 | k+1,h=>by
  have h1:=zOD h0 (k:=k) (fun i hi=>h i (by omega))
  have h2:=h (k+1) (by omega)
  show 1≤10*decK s (k+1)+((byteV s (k+1):Int) - 48)
  omega
theorem zOE {s:ByteArray} (hd:∀ k,k<s.size→48≤byteV s k∧byteV s k≤57) (hz:¬(1<s.size∧byteV s 0=48)) (h6:s.size≤6) :
 ∀ k,k+1≤s.size→Lib.decDigits (decK s (k+1)).toNat=s.data.toList.take (k+1)
 | 0,hk=>by
  have h:=hd 0 (by omega)
  have e:decK s 1=(byteV s 0:Int) - 48:=by show 10*decK s 0+((byteV s 0:Int) - 48)=_; have e:decK s 0=0:=rfl; omega
  have hl:0<s.data.toList.length:=by rw [Array.length_toList]; show 0<s.size; omega
  rw [e,Lib.decDigits_one (by omega)]
  cases hL:s.data.toList with
  | nil=>rw [hL] at hl; simp at hl
  | cons c r =>
   have hb:byteV s 0=c.toNat:=by unfold byteV; rw [hL]; rfl
   have e2:48+((byteV s 0:Int) - 48).toNat=c.toNat:=by omega
   rw [e2,UInt8.ofNat_toNat]
   rfl
 | k+1,hk=>by
  have ih:=zOE hd hz h6 k (by omega)
  have h:=hd (k+1) (by omega)
  have hp:=zOD (s:=s) (fun e=>hz ⟨by omega,e⟩) (k:=k) (fun i hi=>hd i (by omega))
  have e:decK s (k+1+1)=10*decK s (k+1)+((byteV s (k+1):Int) - 48):=rfl
  have hl:k+1<s.data.toList.length:=by rw [Array.length_toList]; show k+1<s.size; omega
  rw [Lib.decDigits,dif_neg (by omega),show (decK s (k+1+1)).toNat / 10=(decK s (k+1)).toNat by omega,ih,show (decK s (k+1+1)).toNat % 10=byteV s (k+1) - 48 by omega,List.take_succ_eq_append_getElem hl]
  congr 2
  have hb:byteV s (k+1)=(s.data.toList[k+1]).toNat:=by unfold byteV; rw [List.getD_eq_getElem?_getD,List.getElem?_eq_getElem hl]; rfl
  exact UInt8.toNat_inj.1 (by rw [UInt8.toNat_ofNat']; have:=(s.data.toList[k+1]).toNat_lt; omega)
theorem zIF {s:ByteArray} (h:zBi s=true):itoaV (numRV s)=s∧0≤numRV s∧numRV s≤999999:=by
 have h':=h
 rw [zBi,Bool.and_eq_true,decide_eq_true_eq] at h'
 obtain ⟨⟨h1,h2,h3⟩,h4⟩:=h'
 have hd:=zCT.1 h4
 have hb:=zGY h2 (k:=s.size) hd
 have hp:(10:Int) ^ s.size≤10 ^ 6:=by
  have:=Nat.pow_le_pow_right (show 0<10 by omega) h2
  exact_mod_cast this
 have e:numRV s=decK s s.size:=if_pos h
 obtain ⟨k,hk⟩:∃ k,s.size=k+1:=⟨s.size - 1,by omega⟩
 have ht:=zOE hd h3 h2 k (by omega)
 rw [←hk,List.take_of_length_le (by rw [Array.length_toList]; exact Nat.le_refl _)] at ht
 refine ⟨?_,by omega,by rw [e]; omega⟩
 rw [e]
 have hi:Lib.itoa (decK s s.size)=s.data.toList:=by
  have:=Lib.itoa_nonneg (decK s s.size).toNat
  rw [Int.toNat_of_nonneg hb.1] at this
  rw [this,ht]
 unfold itoaV
 rw [hi]
theorem zLO {v:Int} (h0:0≤v) (h1:v≤999999):zBi (itoaV v)=true:=by
 have hL:(itoaV v).data.toList=Lib.decDigits v.toNat:=by
  rw [zG5]
  have:=Lib.itoa_nonneg v.toNat
  rwa [Int.toNat_of_nonneg h0] at this
 have hs:(itoaV v).size=(Lib.decDigits v.toNat).length:=by rw [←hL,Array.length_toList]; rfl
 have hn:(Lib.decDigits v.toNat).length=Lib.nDigits v.toNat:=Lib.decDigits_length _
 have hpos:0<(Lib.decDigits v.toNat).length:=List.length_pos_iff.2 (zRF _)
 have hn6:Lib.nDigits v.toNat≤6:=by
  have step:∀ u,Lib.nDigits u=if u<10 then 1 else Lib.nDigits (u / 10)+1:=fun u=>by rw [Lib.nDigits]; split<;>rfl
  rw [step,step,step,step,step,step]
  repeat' split
  all_goals omega
 have hn1:1<(Lib.decDigits v.toNat).length→1≤v.toNat:=fun h=>by
  by_cases h9:v.toNat<10
  ·rw [hn,Lib.nDigits_small h9] at h; omega
  ·omega
 rw [zBi,Bool.and_eq_true,decide_eq_true_eq]
 refine ⟨⟨by omega,by omega,fun ⟨h,hb⟩=>?_⟩,zCT.2 fun k hk=>?_⟩
 ·unfold byteV at hb
  rw [hL] at hb
  exact zTM _ (hn1 (by omega)) hb
 ·unfold byteV
  rw [hL,List.getD_eq_getElem?_getD,List.getElem?_eq_getElem (by omega)]
  exact zIl _ _ (List.getElem_mem _)
theorem zVC {s:ByteArray} {m:Int} (hm:m≤999999):numV s m=(zBi s && decide (numRV s≤m)):=by
 cases h:zBi s with
 | true =>
  obtain ⟨h1,h2,h3⟩:=zIF h
  obtain ⟨a1,a2⟩:=zD8 h2 (by omega)
  rw [h1] at a1 a2
  unfold numV
  rw [a1,a2,h1,decide_eq_true h2,decide_eq_true (rfl:s=s)]
  simp
 | false =>
  rw [Bool.false_and]
  cases hv:numV s m with
  | false=>rfl
  | true =>
   unfold numV at hv
   simp only [Bool.and_eq_true,decide_eq_true_eq] at hv
   obtain ⟨_,h2,h3,h4⟩:=hv
   have:=zLO h2 (by omega)
   rw [h4,h] at this
   cases this
theorem zIE {s:ByteArray} (h:zBi s=true):atoiV s=numRV s:=by
 obtain ⟨h1,h2,h3⟩:=zIF h
 have:=(zD8 h2 (by omega)).2
 rwa [h1] at this
end Go.Proofs.YtlgkplnifaoeeaaGreatDoor
namespace Go.Proofs.YtlgkplnifaoeeaaGreatDoor
open Go.RowKit Go.VS
theorem zE0 {a b:ByteArray} (h:a.data.toList=b.data.toList):a=b:=ByteArray.ext (Array.toList_inj.1 h)
theorem zBm (s:ByteArray) (y:Nat):∀ (n k:Nat),k+n=s.size→(∀ j,k≤j→j<zCp s y n k→byteV s j≠y)∧(zCp s y n k<s.size→byteV s (zCp s y n k)=y)∧k≤zCp s y n k∧zCp s y n k≤s.size
 | 0,k,h=>by
  have e:zCp s y 0 k=s.size:=rfl
  rw [e]
  exact ⟨fun j h1 h2=>by omega,fun h2=>by omega,by omega,by omega⟩
 | n+1,k,h=>by
  by_cases hb:byteV s k=y
  ·have e:zCp s y (n+1) k=k:=if_pos hb
   rw [e]
   exact ⟨fun j h1 h2=>by omega,fun _=>hb,by omega,by omega⟩
  ·have e:zCp s y (n+1) k=zCp s y n (k+1):=if_neg hb
   rw [e]
   obtain ⟨h1,h2,h3,h4⟩:=zBm s y n (k+1) (by omega)
   refine ⟨fun j h5 h6=>?_,h2,by omega,h4⟩
   by_cases hj:j=k
   ·rw [hj]; exact hb
   ·exact h1 j (by omega) h6
theorem zNF {l:List UInt8} {c:UInt8} {i:Nat}:Lib.occAt l [c] i=true↔l[i]?=some c:=by
 unfold Lib.occAt
 rw [←List.head?_drop]
 cases l.drop i with
 | nil=>simp
 | cons x r =>
  show (c == x && ([]:List UInt8).isPrefixOf r)=true↔some x=some c
  rw [Bool.and_eq_true,beq_iff_eq,Option.some.injEq]
  exact ⟨fun h=>h.1.symm,fun h=>⟨h.symm,by cases r<;>rfl⟩⟩
theorem zKC {s:ByteArray} {c:UInt8} {i:Nat} (h:i<s.size):s.data.toList[i]?=some c↔byteV s i=c.toNat:=by
 have hl:i<s.data.toList.length:=by rw [Array.length_toList]; exact h
 unfold byteV
 rw [List.getD_eq_getElem?_getD,List.getElem?_eq_getElem hl]
 show some s.data.toList[i]=some c↔s.data.toList[i].toNat=c.toNat
 rw [Option.some.injEq]
 exact UInt8.toNat_inj.symm
theorem zLN (s:ByteArray) (c:UInt8):Lib.index s.data.toList [c]=if zAy s c.toNat=true then (cutI s c.toNat:Int) else -1:=by
 obtain ⟨h1,h2,_,h4⟩:=zBm s c.toNat s.size 0 (by omega)
 have hl:s.data.toList.length=s.size:=by rw [Array.length_toList]; rfl
 have occ:∀ j,j<cutI s c.toNat→Lib.occAt s.data.toList [c] j=false:=fun j hj=>by
  cases ho:Lib.occAt s.data.toList [c] j with
  | false=>rfl
  | true =>
   have:=(zKC (show j<s.size by unfold cutI at hj; omega)).1 (zNF.1 ho)
   exact absurd this (h1 j (Nat.zero_le _) hj)
 by_cases hh:cutI s c.toNat<s.size
 ·have hh':zAy s c.toNat=true:=decide_eq_true hh
  rw [if_pos hh']
  exact Lib.index_first (by omega) (zNF.2 ((zKC hh).2 (h2 hh))) occ
 ·have hh':¬zAy s c.toNat=true:=fun h=>hh (of_decide_eq_true h)
  rw [if_neg hh']
  refine Lib.index_none fun j hj=>?_
  by_cases hj2:j<s.size
  ·exact occ j (by unfold cutI at hh ⊢; omega)
  ·cases ho:Lib.occAt s.data.toList [c] j with
   | false=>rfl
   | true =>
    have:=zNF.1 ho
    rw [List.getElem?_eq_none (by omega)] at this
    cases this
theorem zCE (s:ByteArray) (i j:Nat):(s.extract i j).data.toList=(s.data.toList.drop i).take (j - i):=by
 rw [ByteArray.data_extract,Array.toList_extract,List.extract_eq_take_drop]
theorem zOB (s:ByteArray) (c:UInt8):cutB s ⟨#[c]⟩=zAy s c.toNat∧cut1 s ⟨#[c]⟩=rcut1 s c.toNat∧cut2 s ⟨#[c]⟩=rcut2 s c.toNat:=by
 have hi:=zLN s c
 have hl:s.data.toList.length=s.size:=by rw [Array.length_toList]; rfl
 have hc:Lib.cut s.data.toList [c]=if zAy s c.toNat=true then (s.data.toList.take (cutI s c.toNat),s.data.toList.drop (cutI s c.toNat+1),true) else (s.data.toList,[],false):=by
  unfold Lib.cut
  rw [hi]
  by_cases h:zAy s c.toNat=true
  ·rw [if_pos h,if_pos h,if_pos (by omega)]
   rfl
  ·rw [if_neg h,if_neg h,if_neg (by omega)]
 have e:(⟨#[c]⟩:ByteArray).data.toList=[c]:=rfl
 unfold cutB cut1 cut2 rcut1 rcut2
 rw [e,hc]
 by_cases h:zAy s c.toNat=true
 ·rw [if_pos h,if_pos h,if_pos h,h]
  refine ⟨rfl,zE0 ?_,zE0 ?_⟩
  ·rw [zCE]; simp
  ·rw [zCE]
   show s.data.toList.drop _=_
   rw [List.take_of_length_le (by rw [List.length_drop]; omega)]
 ·rw [if_neg h,if_neg h,if_neg h]
  refine ⟨(by simpa using h:zAy s c.toNat=false).symm,zE0 rfl,zE0 rfl⟩
theorem zGk {s:ByteArray} {c:UInt8} (h:zAy s c.toNat=true):rcut1 s c.toNat++⟨#[c]⟩++rcut2 s c.toNat=s:=by
 obtain ⟨h1,h2,_,h4⟩:=zBm s c.toNat s.size 0 (by omega)
 have hh:cutI s c.toNat<s.size:=of_decide_eq_true h
 have hl:s.data.toList.length=s.size:=by rw [Array.length_toList]; rfl
 refine zE0 ?_
 rw [ByteArray.data_append,Array.toList_append,ByteArray.data_append,Array.toList_append]
 unfold rcut1 rcut2
 rw [if_pos h,if_pos h,zCE,zCE]
 have hg:=(zKC hh).2 (h2 hh)
 rw [List.getElem?_eq_getElem (by omega)] at hg
 have hg':=Option.some.inj hg
 show ((s.data.toList.drop 0).take (cutI s c.toNat - 0)++[c])++(s.data.toList.drop (cutI s c.toNat+1)).take (s.size - (cutI s c.toNat+1))=_
 rw [List.take_of_length_le (l:=s.data.toList.drop (cutI s c.toNat+1)) (by rw [List.length_drop]; omega),List.drop_zero,Nat.sub_zero,List.append_assoc,List.singleton_append]
 conv=>rhs; rw [←List.take_append_drop (cutI s c.toNat) s.data.toList,List.drop_eq_getElem_cons (by omega:cutI s c.toNat<s.data.toList.length)]
 congr 2
 exact hg'.symm
end Go.Proofs.YtlgkplnifaoeeaaGreatDoor
namespace Go.Proofs.YtlgkplnifaoeeaaGreatDoor
open Go.RowKit Go.VS
def wrK (l:List Line):Nat→ByteArray×Int
 | 0=>(ByteArray.empty,0)
 | k+1=>((wrK l k).1++(lineV (wrK l k).2 (l.getD k (ByteArray.empty,0))++{data:=#[10]}),sumV (wrK l k).2 (textV (l.getD k (ByteArray.empty,0)).2 (l.getD k (ByteArray.empty,0)).1))
structure WritePre (l:List Line):Prop where
 len:l.length≤100
 all:∀ x∈l,LinePre x
end Go.Proofs.YtlgkplnifaoeeaaGreatDoor
namespace Go.Proofs.YtlgkplnifaoeeaaGreatDoor
open Go.RowKit Go.VS
theorem zH4 {s:ByteArray} {y:Nat} (h:zAy s y=true):(rcut2 s y).size<s.size:=by
 have hh:cutI s y<s.size:=of_decide_eq_true h
 unfold rcut2
 rw [if_pos h,ByteArray.size_extract]
 omega
theorem zJq {s:ByteArray} {y:Nat} (h:zAy s y=true) {j:Nat} (hj:j<(rcut2 s y).size):byteV (rcut2 s y) j=byteV s (cutI s y+1+j):=by
 have hh:cutI s y<s.size:=of_decide_eq_true h
 have hl:s.data.toList.length=s.size:=by rw [Array.length_toList]; rfl
 unfold byteV rcut2 at *
 rw [if_pos h] at hj ⊢
 rw [ByteArray.size_extract] at hj
 rw [zCE,List.getD_eq_getElem?_getD,List.getD_eq_getElem?_getD,List.getElem?_take_of_lt (by omega),List.getElem?_drop]
theorem zI3 {s:ByteArray} {y:Nat} (h:zAy s y=true):(rcut2 s y).size+cutI s y+1=s.size:=by
 have hh:cutI s y<s.size:=of_decide_eq_true h
 unfold rcut2
 rw [if_pos h,ByteArray.size_extract]
 omega
theorem zLJ {s:ByteArray} {y:Nat} (h:zAy s y=true) (i j:Nat) (hj:j≤(rcut2 s y).size):(rcut2 s y).extract i j=s.extract (cutI s y+1+i) (cutI s y+1+j):=by
 have hs:=zI3 h
 have hl:s.data.toList.length=s.size:=by rw [Array.length_toList]; rfl
 refine zE0 ?_
 rw [zCE,zCE]
 have e:(rcut2 s y).data.toList=s.data.toList.drop (cutI s y+1):=by
  unfold rcut2
  rw [if_pos h,zCE,List.take_of_length_le (by rw [List.length_drop]; omega)]
 rw [e,List.drop_drop]
 congr 1
 omega
theorem zI9 (s:ByteArray):∀ k,k≤cutI s 32→k≤s.size→wK s k=([],0)
 | 0,_,_=>rfl
 | k+1,h,h2=>by
  have h1:=(zBm s 32 s.size 0 (by omega)).1 k (Nat.zero_le _) (by unfold cutI at h; omega)
  rw [zJa (fun e=>e.elim (fun e=>by omega) h1)]
  exact zI9 s k (by omega) (by omega)
theorem zMM {s:ByteArray} (h:zAy s 32=true):∀ j,j≤(rcut2 s 32).size+1 →
 wK s (cutI s 32+1+j)=(rcut1 s 32::(wK (rcut2 s 32) j).1,cutI s 32+1+(wK (rcut2 s 32) j).2)
 | 0,_=>by
  have hh:cutI s 32<s.size:=of_decide_eq_true h
  have hb:byteV s (cutI s 32)=32:=(zBm s 32 s.size 0 (by omega)).2.1 hh
  rw [Nat.add_zero,zHQ (.inr hb),zI9 s _ (Nat.le_refl _) (by omega)]
  have e:rcut1 s 32=s.extract 0 (cutI s 32):=by unfold rcut1; rw [if_pos h]
  rw [e]
  rfl
 | j+1,hj=>by
  have ih:=zMM h j (by omega)
  have hs:=zI3 h
  have hle:=wK_le (rcut2 s 32) j
  by_cases h1:j=(rcut2 s 32).size∨byteV (rcut2 s 32) j=32
  ·have h2:cutI s 32+1+j=s.size∨byteV s (cutI s 32+1+j)=32:=by
    rcases h1 with h1|h1
    ·left; omega
    ·by_cases hj2:j<(rcut2 s 32).size
     ·right; rw [←zJq h hj2]; exact h1
     ·left; omega
   rw [←Nat.add_assoc,zHQ h2,ih,zHQ h1]
   dsimp only
   rw [zLJ h _ _ (by omega)]
   rfl
  ·have h2:¬(cutI s 32+1+j=s.size∨byteV s (cutI s 32+1+j)=32):=by
    rintro (h2|h2)
    ·exact h1 (.inl (by omega))
    ·by_cases hj2:j<(rcut2 s 32).size
     ·exact h1 (.inr (by rw [zJq h hj2]; exact h2))
     ·exact h1 (.inl (by omega))
   rw [←Nat.add_assoc,zJa h2,ih,zJa h1]
theorem zGV (s:ByteArray):zBv s=if zAy s 32=true then rcut1 s 32::zBv (rcut2 s 32) else [s]:=by
 by_cases h:zAy s 32=true
 ·rw [if_pos h]
  have hs:=zI3 h
  have e:=zMM h ((rcut2 s 32).size+1) (Nat.le_refl _)
  unfold zBv
  rw [show s.size+1=cutI s 32+1+((rcut2 s 32).size+1) by omega,e]
 ·rw [if_neg h]
  have hh:¬cutI s 32<s.size:=fun e=>h (decide_eq_true e)
  have h4:=(zBm s 32 s.size 0 (by omega)).2.2.2
  have h5:cutI s 32=s.size:=by unfold cutI at hh ⊢; omega
  unfold zBv
  rw [zHQ (.inl rfl),zI9 s s.size (by omega) (Nat.le_refl _)]
  show [s.extract 0 s.size]=[s]
  congr 1
  refine zE0 ?_
  rw [zCE,List.drop_zero,List.take_of_length_le (by rw [Array.length_toList]; exact Nat.le_refl _)]
end Go.Proofs.YtlgkplnifaoeeaaGreatDoor
namespace Go.Proofs.YtlgkplnifaoeeaaGreatDoor
open Go.RowKit Go.VS Go.OT Go.LC
structure LwB (N:Nat) (m:Int) (s:LL):Prop where
 l1:s.far.length=N
 l2:s.by'.length=N
 bnd:∀ v,v<N → -1000000*m≤s.far.getD v 0∧s.far.getD v 0≤0
theorem LwB.mono {N:Nat} {m m':Int} {s:LL} (h:LwB N m s) (hm:m≤m'):LwB N m' s:=⟨h.l1,h.l2,fun v hv=>by have:=h.bnd v hv; omega⟩
theorem LwB.set {N:Nat} {m:Int} {s:LL} (h:LwB N m s) {v:Nat} (hv:v<N) {x y z:Int} (hb : -1000000*(m+1)≤x∧x≤0):LwB N (m+1) ⟨s.far.set v x,s.by'.set v y,z⟩:=by
 refine ⟨by simp [h.l1],by simp [h.l2],fun k hk=>?_⟩
 show _≤(s.far.set v x).getD k 0∧(s.far.set v x).getD k 0≤0
 rw [zBu (by rw [h.l1]; exact hv)]
 have:=h.bnd k hk
 split<;>omega
section
variable {R C:Nat} {m:Int} {s:LL}
theorem LwB.lwC (h:LwB (R+C) m s) {c:Int} {i j:Nat} (hi:i<R) (hj:j<C) (hc:0≤c∧c≤1000000):LwB (R+C) (m+1) (lwC R c i j s):=by
 unfold Go.LC.lwC
 split
 ·have b1:=h.bnd i (by omega)
  have b2:=h.bnd (R+j) (by omega)
  exact h.set (by omega) (by omega)
 ·exact h.mono (by omega)
theorem LwB.lwR (h:LwB (R+C) m s) {c n:Int} {i j:Nat} (hi:i<R) (hj:j<C) (hc:0≤c∧c≤1000000):LwB (R+C) (m+1) (lwR R c n i j s):=by
 unfold Go.LC.lwR
 split
 ·have b1:=h.bnd i (by omega)
  have b2:=h.bnd (R+j) (by omega)
  exact h.set (by omega) (by omega)
 ·exact h.mono (by omega)
variable {c p:List (List Int)}
theorem LwB.row (hc:Tb R C 0 1000000 c) (h:LwB (R+C) m s) {i:Nat} (hi:i<R):∀ j,j≤C→LwB (R+C) (m+2*j) (upto (lw2 c p i) j s)
 | 0,_=>h.mono (by omega)
 | j+1,hj=>by
  have h1:=LwB.row hc h hi j (by omega)
  have h2:=(h1.lwC (c:=(c.getD i []).getD j 0) hi (by omega:j<C) (hc.at' i j hi (by omega))).lwR (c:=(c.getD i []).getD j 0) (n:=(p.getD i []).getD j 0) hi (by omega:j<C) (hc.at' i j hi (by omega))
  show LwB (R+C) (m+2*((j+1:Nat):Int)) (lw2 c p i j (upto (lw2 c p i) j s))
  have e:lw2 c p i j (upto (lw2 c p i) j s)=Go.LC.lwR c.length ((c.getD i []).getD j 0) ((p.getD i []).getD j 0) i j (Go.LC.lwC c.length ((c.getD i []).getD j 0) i j (upto (lw2 c p i) j s)):=rfl
  rw [e,hc.rows]
  have h3:=LwB.mono (m':=m+2*((j+1:Nat):Int)) h2 (by omega)
  exact h3
theorem LwB.tab (hc:Tb R C 0 1000000 c) (hC:C≤6) (h:LwB (R+C) m s):∀ i,i≤R→LwB (R+C) (m+12*i) (upto (lwRow c p) i s)
 | 0,_=>h.mono (by omega)
 | i+1,hi=>by
  have h1:=LwB.row (p:=p) hc (LwB.tab hc hC h i (by omega)) (i:=i) (by omega) C (Nat.le_refl _)
  show LwB (R+C) (m+12*((i+1:Nat):Int)) (upto (lw2 c p i) (c.getD i []).length (upto (lwRow c p) i s))
  rw [hc.cols i (by omega)]
  exact h1.mono (by omega)
end
section
variable {R:Nat} {c p:List (List Int)} {i j:Nat} {s:LL}
end
end Go.Proofs.YtlgkplnifaoeeaaGreatDoor
namespace Go.Proofs.YtlgkplnifaoeeaaGreatDoor
open Go.RowKit Go.VS Go.OT Go.LC
structure Rd (c p:List (List Int)) (N:Nat) (f:Nat→Nat) (by0:List Int) (x P:Nat):Prop where
 by':∀ v,v<N→by0.getD v 0=((f v:Nat):Int)∧f v<N
 lt:∀ m,it f m x<N
 rnd:Round (cw c.length (gt c)) (eTo c.length (wid c) (gt p) c.length) f x P
 le:P≤N
theorem Rd.next {c p:List (List Int)} {N:Nat} {f:Nat→Nat} {by0:List Int} {x P:Nat} (h:Rd c p N f by0 x P) (m:Nat):by0.getD (it f m x) 0=((it f (m+1) x:Nat):Int):=(h.by' _ (h.lt m)).1
end Go.Proofs.YtlgkplnifaoeeaaGreatDoor
namespace Go.Proofs.YtlgkplnifaoeeaaGreatDoor
open Go.RowKit Go.VS Go.OT
theorem zTa:∀ (l:List Int),sumL l=lsum l:=by
 intro l
 have h:∀ k,k≤l.length→sg k (ga l)=lsum (l.take k):=by
  intro k
  induction k with
  | zero=>intro _; rfl
  | succ k ih =>
   intro hk
   rw [zB6 l k (by omega),←ih (by omega)]
   rfl
 have:=h l.length (Nat.le_refl _)
 rwa [List.take_length] at this
theorem zKI (r s:List Int):∀ k,dotK r s k=sg k fun j=>r.getD j 0*s.getD j 0
 | 0=>rfl
 | k+1=>by simp only [dotK,sg,zKI r s k]
theorem zGM {R C:Nat} {c t:List (List Int)} (h:Sz R C t):spend c t=cst R C (gt c) (gt t):=by
 have h1:∀ k,k≤R→zCP c t k=sg k fun i=>sg C fun j=>gt c i j*gt t i j:=by
  intro k
  induction k with
  | zero=>intro _; rfl
  | succ k ih =>
   intro hk
   simp only [zCP,sg]
   rw [ih (by omega),zKI,h.cols k (by omega)]
   rfl
 unfold spend
 rw [h.rows]
 exact h1 R (Nat.le_refl _)
theorem worth_eq {a b:List Int} {p:zBh}:zJe a b p=worth a.length b.length (ga a) (ga b) (ga p.1) (ga p.2):=by
 unfold zJe worth
 rw [zKI,zKI]
 rfl
section
variable {a b:List Int} {c:List (List Int)}
theorem zGn (h:zE8 a b c=0):Best a b c (cheapV a b c):=by
 obtain ⟨h1,h2⟩:=zPM h
 exact h1.mc.best (by rw [zTa,zTa,h2])
theorem zLs (h:zE8 a b c=0):zO3 a b c=cst a.length b.length (gt c) (gt (cheapV a b c)):=by
 rw [zUh h]
 exact zGM (zGn h).shp.tab.sz
theorem zUi (h:zE8 a b c=0) {q:List (List Int)} (hq:IsPlan a.length b.length (ga a) (ga b) (gt q)):zO3 a b c≤cst a.length b.length (gt c) (gt q):=by
 rw [zLs h]
 obtain ⟨r,s,h1,h2,_⟩:=(zGn h).good
 exact (zGn h).plan.least h1 h2 hq
theorem least_of (h:zE8 a b c=0) {q:List (List Int)} (hq:IsPlan a.length b.length (ga a) (ga b) (gt q)) {u v:Nat→Int} (h1:Holds a.length b.length (gt c) u v) (h2:Tight a.length b.length (gt c) (gt q) u v):zO3 a b c=cst a.length b.length (gt c) (gt q):=by
 have k1:=zUi h hq
 have k2:=hq.least h1 h2 (zGn h).plan
 rw [←zLs h] at k2
 omega
end
end Go.Proofs.YtlgkplnifaoeeaaGreatDoor
