import Derived.Test.YtekfodeknpnkbaaGreatDoorT9
set_option linter.unusedSimpArgs false
set_option linter.unusedVariables false
namespace Go.LC
open Go.OT
structure MQ (a b:List Int) (c:List (List Int)):Prop where
 a5:1≤a.length∧a.length≤6
 b5:1≤b.length∧b.length≤6
 ha:Bnd 0 200 a
 hb:Bnd 0 200 b
 hc:Tb a.length b.length 0 1000000 c
 hs:sumL a=sumL b
section
variable {R C:Nat} {p:Nat→Nat→Int}
variable {c q:List (List Int)}
end
end Go.LC
namespace Go.OT
section
variable {a b:List Int} {c:List (List Int)}
theorem zYy (hm:MC a b c) {q:Nat→Nat→Int} (hq:IsPart a.length b.length (ga a) (ga b) q) {k:Nat} (hu:units a.length b.length q=k):k≤maxU a b∧partV a b c k≤cst a.length b.length (gt c) q:=by
 have h1:=hq.units_le
 have hk:k≤maxU a b:=by unfold maxU; omega
 refine ⟨hk,?_⟩
 have h2:=stepI hm k hk
 obtain ⟨r,s,hg,_⟩:=h2.way.good
 have h3:=hg.least h2.way.part hq
 rw [h2.un,hu,h2.cs,Int.sub_self,Int.mul_zero] at h3
 omega
theorem zV4 (hm:MC a b c) (w:Int) {q:Nat→Nat→Int} (hq:IsPart a.length b.length (ga a) (ga b) q):zBa a b c w≤cst a.length b.length (gt c) q+w*(sumL a+sumL b - 2*units a.length b.length q):=by
 have h1:=hq.units_le
 obtain ⟨k,hk⟩:=Int.eq_ofNat_of_zero_le h1.1
 obtain ⟨h2,h3⟩:=zYy hm hq hk
 have h4:=(zFn hm w h2).1
 unfold objV at h4
 rw [hk]
 omega
theorem zPT (hm:MC a b c) (w:Int) {k:Nat} (h1:fewK a b c w≤k) (h2:k≤mostK a b c w):cst a.length b.length (gt c) (gt (stepP a b c k))+w*(sumL a+sumL b - 2*k)=zBa a b c w:=by
 have hk:k≤maxU a b:=Nat.le_trans h2 (zMA hm w).1
 rw [(zLo hm hk).2.2,←((zFn hm w hk).2.2 ⟨h1,h2⟩)]
 rfl
end
section
variable {R C:Nat}
def withD (R:Nat) (a:Nat→Int) (x:Int) (i:Nat):Int:=if i<R then a i else x
def costD (R C:Nat) (c:Nat→Nat→Int) (d e:Int) (i j:Nat):Int:=if i<R then (if j<C then c i j else d) else (if j<C then d else e)
theorem zWN (n:Nat) (a:Nat→Int) (x:Int):sg (n+1) (withD n a x)=sg n a+x:=by
 show sg n (withD n a x)+withD n a x n=_
 rw [zAm (f:=withD n a x) (g:=a) n fun i hi=>if_pos hi]
 congr 1
 exact if_neg (Nat.lt_irrefl n)
variable {a b:Nat→Int} {c Q:Nat→Nat→Int} {m d e:Int}
theorem zS4 (hQ:IsPlan (R+1) (C+1) (withD R a (sg C b - m)) (withD C b (sg R a - m)) Q):IsPart R C a b Q∧Q R C=units R C Q - m∧0≤Q R C ∧
 cst (R+1) (C+1) (costD R C c d e) Q=cst R C c Q+d*(sg R a+sg C b - 2*units R C Q)+e*(units R C Q - m):=by
 have hrow:∀ i,i<R→rowS C Q i+Q i C=a i:=fun i hi=>by
  have:=hQ.row i (by omega)
  rw [show withD R a (sg C b - m) i=a i from if_pos hi] at this
  exact this
 have hcol:∀ j,j<C→colS R Q j+Q R j=b j:=fun j hj=>by
  have:=hQ.col j (by omega)
  rw [show withD C b (sg R a - m) j=b j from if_pos hj] at this
  exact this
 have hrR:rowS C Q R+Q R C=sg C b - m:=by
  have:=hQ.row R (by omega)
  rw [show withD R a (sg C b - m) R=sg C b - m from if_neg (Nat.lt_irrefl _)] at this
  exact this
 have hcC:colS R Q C+Q R C=sg R a - m:=by
  have:=hQ.col C (by omega)
  rw [show withD C b (sg R a - m) C=sg R a - m from if_neg (Nat.lt_irrefl _)] at this
  exact this
 have s1:units R C Q+colS R Q C=sg R a:=by
  unfold units colS
  rw [←zCO]
  exact zAm R hrow
 have s2:units R C Q+rowS C Q R=sg C b:=by
  rw [zCJ]
  unfold rowS
  rw [←zCO]
  exact zAm C hcol
 have h0:=hQ.nn R C (by omega) (by omega)
 refine ⟨⟨fun i j hi hj=>hQ.nn i j (by omega) (by omega),fun i hi=>?_,fun j hj=>?_⟩,by omega,h0,?_⟩
 ·have:=hrow i hi
  have:=hQ.nn i C (by omega) (by omega)
  omega
 ·have:=hcol j hj
  have:=hQ.nn R j (by omega) (by omega)
  omega
 ·have e1:cst (R+1) (C+1) (costD R C c d e) Q=sg R (fun i=>sg C (fun j=>c i j*Q i j)+d*Q i C)+(sg C (fun j=>d*Q R j)+e*Q R C):=by
   show sg R (fun i=>sg C (fun j=>costD R C c d e i j*Q i j)+costD R C c d e i C*Q i C)+(sg C (fun j=>costD R C c d e R j*Q R j)+costD R C c d e R C*Q R C)=_
   congr 1
   ·refine zAm R fun i hi=>?_
    congr 1
    ·refine zAm C fun j hj=>?_
     unfold costD
     rw [if_pos hi,if_pos hj]
    ·unfold costD
     rw [if_pos hi,if_neg (Nat.lt_irrefl _)]
   ·congr 1
    ·refine zAm C fun j hj=>?_
     unfold costD
     rw [if_neg (Nat.lt_irrefl _),if_pos hj]
    ·unfold costD
     rw [if_neg (Nat.lt_irrefl _),if_neg (Nat.lt_irrefl _)]
  rw [e1,zCO,zFx,zFx]
  have e2:sg R (fun i=>Q i C)=colS R Q C:=rfl
  have e3:sg C (fun j=>Q R j)=rowS C Q R:=rfl
  have e4:sg R (fun i=>sg C fun j=>c i j*Q i j)=cst R C c Q:=rfl
  rw [e2,e3,e4,show colS R Q C=sg R a - units R C Q by omega,show rowS C Q R=sg C b - units R C Q by omega,show Q R C=units R C Q - m by omega,
   show sg R a+sg C b - 2*units R C Q=(sg R a - units R C Q)+(sg C b - units R C Q) by omega,Int.mul_add]
  omega
def extD (R C:Nat) (a b:Nat→Int) (m:Int) (q:Nat→Nat→Int) (i j:Nat):Int :=
 if i<R then (if j<C then q i j else a i - rowS C q i) else (if j<C then b j - colS R q j else units R C q - m)
theorem zPw {q:Nat→Nat→Int} (hq:IsPart R C a b q) (hu:m≤units R C q):IsPlan (R+1) (C+1) (withD R a (sg C b - m)) (withD C b (sg R a - m)) (extD R C a b m q)∧(∀ i j,i<R→j<C→extD R C a b m q i j=q i j):=by
 have hin:∀ i j,i<R→j<C→extD R C a b m q i j=q i j:=fun i j hi hj=>by
  unfold extD
  rw [if_pos hi,if_pos hj]
 have hiC:∀ i,i<R→extD R C a b m q i C=a i - rowS C q i:=fun i hi=>by
  unfold extD
  rw [if_pos hi,if_neg (Nat.lt_irrefl _)]
 have hRj:∀ j,j<C→extD R C a b m q R j=b j - colS R q j:=fun j hj=>by
  unfold extD
  rw [if_neg (Nat.lt_irrefl _),if_pos hj]
 have hRC:extD R C a b m q R C=units R C q - m:=by
  unfold extD
  rw [if_neg (Nat.lt_irrefl _),if_neg (Nat.lt_irrefl _)]
 refine ⟨⟨fun i j hi hj=>?_,fun i hi=>?_,fun j hj=>?_⟩,hin⟩
 ·rcases Nat.lt_or_ge i R with h1|h1
  ·rcases Nat.lt_or_ge j C with h2|h2
   ·rw [hin i j h1 h2]; exact hq.nn i j h1 h2
   ·obtain rfl:j=C:=by omega
    rw [hiC i h1]; have:=hq.row i h1; omega
  ·obtain rfl:i=R:=by omega
   rcases Nat.lt_or_ge j C with h2|h2
   ·rw [hRj j h2]; have:=hq.col j h2; omega
   ·obtain rfl:j=C:=by omega
    rw [hRC]; omega
 ·show sg C (fun j=>extD R C a b m q i j)+extD R C a b m q i C=_
  rcases Nat.lt_or_ge i R with h1|h1
  ·rw [zAm C fun j hj=>hin i j h1 hj,hiC i h1,show withD R a (sg C b - m) i=a i from if_pos h1]
   show rowS C q i+_=_
   omega
  ·obtain rfl:i=R:=by omega
   rw [zAm C fun j hj=>hRj j hj,hRC,show withD i a (sg C b - m) i=sg C b - m from if_neg (Nat.lt_irrefl _),zGT,←zCJ]
   omega
 ·show sg R (fun i=>extD R C a b m q i j)+extD R C a b m q R j=_
  rcases Nat.lt_or_ge j C with h1|h1
  ·rw [zAm R fun i hi=>hin i j hi h1,hRj j h1,show withD C b (sg R a - m) j=b j from if_pos h1]
   show colS R q j+_=_
   omega
  ·obtain rfl:j=C:=by omega
   rw [zAm R fun i hi=>hiC i hi,hRC,show withD j b (sg R a - m) j=sg R a - m from if_neg (Nat.lt_irrefl _),zGT]
   show sg R a - units R j q+_=_
   omega
theorem zO0 {p q:Nat→Nat→Int} (h:∀ i j,i<R→j<C→p i j=q i j):units R C p=units R C q:=zAm R fun i hi=>zAm C fun j hj=>h i j hi hj
theorem zQC {p q:Nat→Nat→Int} (h:∀ i j,i<R→j<C→p i j=q i j):cst R C c p=cst R C c q:=zAm R fun i hi=>zAm C fun j hj=>by rw [h i j hi hj]
theorem zS3 {q:Nat→Nat→Int} (hq:IsPart R C a b q) (hu:m≤units R C q):cst (R+1) (C+1) (costD R C c d e) (extD R C a b m q)=cst R C c q+d*(sg R a+sg C b - 2*units R C q)+e*(units R C q - m):=by
 obtain ⟨h1,h2⟩:=zPw hq hu
 rw [(zS4 (c:=c) (d:=d) (e:=e) h1).2.2.2,zO0 h2,zQC h2]
end
section
variable {a b:List Int} {c:List (List Int)}
theorem zJM (hm:MC a b c) (w:Int) {v:Int} (h1:∃ Q,IsPlan (a.length+1) (b.length+1) (withD a.length (ga a) (sumL b - 0)) (withD b.length (ga b) (sumL a - 0)) Q∧cst (a.length+1) (b.length+1) (costD a.length b.length (gt c) w 0) Q=v)
 (h2:∀ Q,IsPlan (a.length+1) (b.length+1) (withD a.length (ga a) (sumL b - 0)) (withD b.length (ga b) (sumL a - 0)) Q→v≤cst (a.length+1) (b.length+1) (costD a.length b.length (gt c) w 0) Q):v=zBa a b c w:=by
 obtain ⟨Q,hQ,he⟩:=h1
 obtain ⟨k1,k2,k3,k4⟩:=zS4 (c:=gt c) (d:=w) (e:=0) hQ
 have h3:=zV4 hm w k1
 have hf:=(zEI hm w).1
 obtain ⟨p1,p2,p3⟩:=zLo hm hf
 have hu:(0:Int)≤units a.length b.length (gt (stepP a b c (fewK a b c w))):=by rw [p2]; omega
 have h4:=h2 _ (zPw p1 hu).1
 rw [zS3 p1 hu] at h4
 have h5:=zPT hm w (Nat.le_refl _) (((zFn hm w hf).2.1 rfl).2)
 rw [←p2] at h5
 rw [he] at k4
 have e1:sumL a=sg a.length (ga a):=rfl
 have e2:sumL b=sg b.length (ga b):=rfl
 rw [←e1,←e2] at k4 h4
 omega
end
end Go.OT
namespace Go.Proofs.YtekfodeknpnkbaaGreatDoor
open Go.RowKit Go.VS Go.OT
def dumA (a b:List Int) (m:Int):List Int:=a++[lsum b - m]
def dumC (c:List (List Int)) (d e:Int):List (List Int):=(c.map fun r=>r++[d])++[List.replicate (wid c) d++[e]]
structure DumP (a b:List Int) (c:List (List Int)) (m:Int):Prop where
 f:ForOK a b c
 lo:0≤m
 hi:m≤lsum a∧m≤lsum b
end Go.Proofs.YtekfodeknpnkbaaGreatDoor
namespace Go.Proofs.YtekfodeknpnkbaaGreatDoor
open Go.RowKit Go.VS Go.OT Go.LC
section
variable {a b:List Int} {c:List (List Int)} {m d e:Int}
theorem zB2 (a b:List Int) (m:Int):(dumA a b m).length=a.length+1:=by simp [dumA]
theorem zGd {i:Nat} (hi:i<a.length+1):ga (dumA a b m) i=withD a.length (ga a) (sumL b - m) i:=by
 unfold withD dumA ga
 rw [zBs]
 by_cases h:i<a.length
 ·rw [if_pos h,List.getD_eq_getElem?_getD,List.getElem?_append_left h,←List.getD_eq_getElem?_getD]
 ·obtain rfl:i=a.length:=by omega
  rw [if_neg h,List.getD_eq_getElem?_getD,List.getElem?_append_right (Nat.le_refl _)]
  simp
theorem zPu (c:List (List Int)) (d e:Int):(dumC c d e).length=c.length+1:=by simp [dumC]
theorem zK1 {i:Nat} (hi:i<c.length):(dumC c d e).getD i []=c.getD i []++[d]:=by
 unfold dumC
 rw [List.getD_eq_getElem?_getD,List.getElem?_append_left (by simpa using hi)]
 simp [List.getD_eq_getElem?_getD,hi]
theorem zL8:(dumC c d e).getD c.length []=List.replicate (wid c) d++[e]:=by
 unfold dumC
 rw [List.getD_eq_getElem?_getD,List.getElem?_append_right (by simp)]
 simp
theorem zK0 (hc:InTab 0 99 c) {i j:Nat} (hi:i<c.length+1) (hj:j<wid c+1):gt (dumC c d e) i j=costD c.length (wid c) (gt c) d e i j:=by
 unfold gt costD
 by_cases h:i<c.length
 ·rw [if_pos h,zK1 h]
  have hl:=hc.len h
  by_cases h2:j<wid c
  ·rw [if_pos h2,List.getD_eq_getElem?_getD,List.getElem?_append_left (by omega),←List.getD_eq_getElem?_getD]
  ·obtain rfl:j=wid c:=by omega
   rw [if_neg h2,List.getD_eq_getElem?_getD,List.getElem?_append_right (by omega),hl]
   simp
 ·obtain rfl:i=c.length:=by omega
  rw [if_neg h,zL8]
  by_cases h2:j<wid c
  ·rw [if_pos h2,List.getD_eq_getElem?_getD,List.getElem?_append_left (by simpa using h2)]
   simp [h2]
  ·obtain rfl:j=wid c:=by omega
   rw [if_neg h2,List.getD_eq_getElem?_getD,List.getElem?_append_right (by simp)]
   simp
theorem zPv (h:DumP a b c m) (hd:0≤d∧d≤99) (he:0≤e∧e≤1000000):MQ (dumA a b m) (dumA b a m) (dumC c d e):=by
 obtain ⟨hf,h1,h2,h3⟩:=h
 have hm:=hf.mc
 have ha5:=hm.a5
 have hb5:=hm.b5
 have hr:=hf.rows
 have hw:=hf.cols
 obtain ⟨a1,a2,a3⟩:=zCw hf.ha
 obtain ⟨b1,b2,b3⟩:=zCw hf.hb
 rw [zBs] at a2 a3 h2
 rw [zBs] at b2 b3 h3
 have hA:∀ (x y:List Int),Bnd 0 200 x→0≤sumL y - m∧sumL y - m≤200→Bnd 0 200 (dumA x y m):=fun x y hx hy n hn=>by
  unfold dumA at hn
  rw [zBs] at hn
  rcases List.mem_append.1 hn with h|h
  ·exact hx n h
  ·have:n=sumL y - m:=by simpa using h
   omega
 refine ⟨by rw [zB2]; omega,by rw [zB2]; omega,hA a b hm.ha (by omega),hA b a hm.hb (by omega),⟨by rw [zPu,zB2]; omega,fun i hi=>?_,fun i j hi hj=>?_⟩,?_⟩
 ·rw [zB2] at hi ⊢
  rcases Nat.lt_or_ge i c.length with h|h
  ·rw [zK1 h,List.length_append,hf.hc.len h,hw]; rfl
  ·obtain rfl:i=c.length:=by omega
   rw [zL8,List.length_append,List.length_replicate,hw]; rfl
 ·rw [zB2] at hi hj
  have h9:=zK0 (d:=d) (e:=e) hf.hc (i:=i) (j:=j) (by omega) (by omega)
  unfold gt at h9
  rw [h9]
  unfold costD
  split
  ·rename_i h
   split
   ·rename_i h'
    have k9:0≤gt c i j∧gt c i j≤99:=hf.hc.at h h'
    exact ⟨k9.1,Int.le_trans k9.2 (by omega)⟩
   ·omega
  ·split
   ·omega
   ·omega
 ·show sumL (dumA a b m)=sumL (dumA b a m)
  have key:∀ x y:List Int,sumL (dumA x y m)=sumL x+(sumL y - m):=fun x y=>by
   unfold sumL
   rw [zB2,zAm _ fun i hi=>zGd hi,zWN]
   rfl
  rw [key,key]
  omega
end
end Go.Proofs.YtekfodeknpnkbaaGreatDoor
