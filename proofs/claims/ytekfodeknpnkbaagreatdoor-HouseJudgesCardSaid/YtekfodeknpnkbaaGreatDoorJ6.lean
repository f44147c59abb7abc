import Derived.Test.YtekfodeknpnkbaaGreatDoorJ4
import Derived.Test.YtekfodeknpnkbaaGreatDoorRows
import Derived.KernelRfl
set_option linter.unusedSimpArgs false
set_option linter.unusedVariables false
namespace Go.OT
def stepP (a b:List Int) (c:List (List Int)):Nat->List (List Int)
 | 0=>zDf a b
 | k+1=>(nextP a b c (stepP a b c k)).getD []
def nuV (a b:List Int) (c:List (List Int)) (k:Nat):Int:=nextN a b c (stepP a b c k)
def partV (a b:List Int) (c:List (List Int)) (k:Nat):Int:=sg k (nuV a b c)
def lastN (a b:List Int) (c:List (List Int)):Nat->Int
 | 0=>0
 | k+1=>nuV a b c k
def maxU (a b:List Int):Nat:=(min (sumL a) (sumL b)).toNat
section
variable {a b:List Int} {c:List (List Int)}
theorem MC.sum_nn (h:MC a b c):0<=sumL a/\0<=sumL b:=⟨zCM _ fun i hi=>(h.ha.at hi).1,zCM _ fun i hi=>(h.hb.at hi).1⟩
structure StepI (a b:List Int) (c:List (List Int)) (k:Nat):Prop where
 way:Way2 a b c (stepP a b c k) (lastN a b c k)
 un:units a.length b.length (gt (stepP a b c k))=k
 cs:cst a.length b.length (gt c) (gt (stepP a b c k))=partV a b c k
theorem StepI.le {k:Nat} (h:StepI a b c k):k<=maxU a b:=by
 have h1:=h.way.part.units_le
 rw [h.un] at h1
 unfold maxU
 omega
theorem StepI.more {k:Nat} (hm:MC a b c) (h:StepI a b c k):¬bestV a b c (stepP a b c k)<0↔k<maxU a b:=by
 constructor
 ·intro hb
  obtain ⟨p',h1,h2,h3,h4,h5,h6,h7⟩:=zDM hm.hc h.way hb
  have h8:=h2.part.units_le
  rw [h6,h.un] at h8
  unfold maxU
  omega
 ·intro hk hb
  obtain ⟨_,_,h2⟩:=zEU hm.hc h.way hb
  have h3:=h.way.part.units_le
  rw [h.un] at h3
  unfold maxU at hk
  rcases h2 with h2|h2
  ·have e1:units a.length b.length (gt (stepP a b c k))=sumL a:=zAm _ h2
   rw [h.un] at e1
   omega
  ·have e1:sg b.length (colS a.length (gt (stepP a b c k)))=sumL b:=zAm _ h2
   rw [<-zCN,h.un] at e1
   omega
theorem StepI.next {k:Nat} (hm:MC a b c) (h:StepI a b c k) (hk:k<maxU a b):StepI a b c (k+1)/\nextP a b c (stepP a b c k)=some (stepP a b c (k+1))/\lastN a b c k<=nuV a b c k/\0<=nuV a b c k/\nuV a b c k<=99:=by
 obtain ⟨p',h1,h2,h3,h4,h5,h6,h7⟩:=zDM hm.hc h.way ((h.more hm).2 hk)
 have e:stepP a b c (k+1)=p':=by
  show (nextP a b c (stepP a b c k)).getD []=p'
  rw [h1]; rfl
 refine ⟨⟨?_,?_,?_⟩,by rw [e]; exact h1,h3,h4,h5⟩
 ·rw [e]; exact h2
 ·rw [e,h6,h.un]; omega
 ·rw [e,h7,h.cs]
  rfl
theorem stepI (hm:MC a b c):∀ k,k<=maxU a b->StepI a b c k
 | 0,_=>⟨hm.start,by show units _ _ (gt (zDf a b))=_; rw [zCD,zGz]; rfl,by show cst _ _ _ (gt (zDf a b))=_; rw [zCD,zS8]; rfl⟩
 | k+1,hk=>((stepI hm k (by omega)).next hm (by omega)).1
theorem zXO (hm:MC a b c) {k:Nat} (hk:k<maxU a b):0<=nuV a b c k/\nuV a b c k<=99:=((stepI hm k (by omega)).next hm hk).2.2.2
theorem zV3 (hm:MC a b c) {k:Nat} (hk:k+1<maxU a b):nuV a b c k<=nuV a b c (k+1):=((stepI hm (k+1) (by omega)).next hm hk).2.2.1
theorem zMM (hm:MC a b c) {k:Nat}:∀ m,k<=m->m<maxU a b->nuV a b c k<=nuV a b c m
 | 0,h1,_=>by
  obtain rfl:k=0:=by omega
  exact bf _
 | m+1,h1,h2=>by
  rcases ai k (m+1) with h3|h3
  ·exact cD (zMM hm m (by omega) (by omega)) (zV3 hm h2)
  ·obtain rfl:k=m+1:=by omega
   exact bf _
theorem zLf (a b:List Int) (c:List (List Int)) (k:Nat):partV a b c (k+1)=partV a b c k+nuV a b c k:=rfl
theorem zHc (hm:MC a b c):∀ k,k<=maxU a b->0<=partV a b c k/\partV a b c k<=99*k
 | 0,_=>by simp [partV,sg]
 | k+1,hk=>by
  have h1:=zHc hm k (by omega)
  have h2:=zXO hm (k:=k) (by omega)
  rw [zLf]
  omega
theorem zWb (hm:MC a b c) {q:Nat->Nat->Int} (hq:IsPart a.length b.length (ga a) (ga b) q) {k:Nat} (hu:units a.length b.length q=k):k<=maxU a b/\partV a b c k<=cst a.length b.length (gt c) q:=by
 have h1:=hq.units_le
 have hk:k<=maxU a b:=by unfold maxU; omega
 refine ⟨hk,?_⟩
 have h2:=stepI hm k hk
 obtain ⟨r,s,hg,_⟩:=h2.way.good
 have h3:=hg.least h2.way.part hq
 rw [h2.un,hu,h2.cs,Int.sub_self,bX] at h3
 omega
theorem zMR (hm:MC a b c) {k:Nat} (hk:k<=maxU a b):IsPart a.length b.length (ga a) (ga b) (gt (stepP a b c k))/\units a.length b.length (gt (stepP a b c k))=k/\cst a.length b.length (gt c) (gt (stepP a b c k))=partV a b c k :=
 ⟨(stepI hm k hk).way.part,(stepI hm k hk).un,(stepI hm k hk).cs⟩
def objV (a b:List Int) (c:List (List Int)) (w:Int) (k:Nat):Int:=partV a b c k+w*(sumL a+sumL b - 2*k)
theorem zFS (a b:List Int) (c:List (List Int)) (w:Int) (k:Nat):objV a b c w (k+1)=objV a b c w k+(nuV a b c k - 2*w):=by
 unfold objV
 rw [zLf]
 have:w*(sumL a+sumL b - 2*((k+1:Nat):Int))=w*(sumL a+sumL b - 2*(k:Int)) - 2*w:=by
  rw [show sumL a+sumL b - 2*((k+1:Nat):Int)=(sumL a+sumL b - 2*(k:Int)) - 2 by omega,cV,bN w 2]
 omega
def stopF (M:Nat) (en:Nat->Bool):Nat->Nat->Nat
 | 0,k=>k
 | n+1,k=>if M<=k\/en k=true then k else stopF M en n (k+1)
def stopK (M:Nat) (en:Nat->Bool):Nat:=stopF M en (M+1) 0
theorem zJi (M:Nat) (en:Nat->Bool):∀ n k,k<=M->M<k+n->k<=stopF M en n k/\stopF M en n k<=M/\(∀ m,k<=m->m<stopF M en n k->en m=false)/\(stopF M en n k<M->en (stopF M en n k)=true)
 | 0,k,h1,h2=>by omega
 | n+1,k,h1,h2=>by
  have e:stopF M en (n+1) k=if M<=k\/en k=true then k else stopF M en n (k+1):=rfl
  rw [e]
  by_cases h:M<=k\/en k=true
  ·rw [ah h]
   exact ⟨ap _,h1,fun m h3 h4=>by omega,fun h3=>h.resolve_left (by omega)⟩
  ·rw [ae h]
   have hen:en k=false:=by
    cases he:en k with
    | false=>rfl
    | true=>exact absurd (.inr he) h
   have hkM:k<M:=Nat.lt_of_not_le fun h2=>h (.inl h2)
   obtain ⟨g1,g2,g3,g4⟩:=zJi M en n (k+1) (by omega) (by omega)
   refine ⟨by omega,g2,fun m h3 h4=>?_,g4⟩
   rcases ai k m with h5|h5
   ·exact g3 m h5 h4
   ·obtain rfl:m=k:=by omega
    exact hen
theorem zGv (M:Nat) (en:Nat->Bool):stopK M en<=M/\(∀ m,m<stopK M en->en m=false)/\(stopK M en<M->en (stopK M en)=true):=by
 obtain ⟨_,h2,h3,h4⟩:=zJi M en (M+1) 0 (by omega) (by omega)
 exact ⟨h2,fun m hm=>h3 m (by omega) hm,h4⟩
def fewK (a b:List Int) (c:List (List Int)) (w:Int):Nat:=stopK (maxU a b) fun k=>decide (2*w<=nuV a b c k)
def mostK (a b:List Int) (c:List (List Int)) (w:Int):Nat:=stopK (maxU a b) fun k=>decide (2*w<nuV a b c k)
def zB0 (a b:List Int) (c:List (List Int)) (w:Int):Int:=objV a b c w (fewK a b c w)
theorem zFF (hm:MC a b c) (w:Int):fewK a b c w<=maxU a b/\(∀ k,k<fewK a b c w->nuV a b c k<2*w)/\∀ k,fewK a b c w<=k->k<maxU a b->2*w<=nuV a b c k:=by
 obtain ⟨h1,h2,h3⟩:=zGv (maxU a b) fun k=>decide (2*w<=nuV a b c k)
 refine ⟨h1,fun k hk=>?_,fun k hk hkM=>?_⟩
 ·have:=of_decide_eq_false (h2 k hk); omega
 ·have h4:2*w<=nuV a b c (fewK a b c w):=bg (h3 (Nat.lt_of_le_of_lt hk hkM))
  exact cD h4 (zMM hm k hk hkM)
theorem zK4 (hm:MC a b c) (w:Int):mostK a b c w<=maxU a b/\(∀ k,k<mostK a b c w->nuV a b c k<=2*w)/\∀ k,mostK a b c w<=k->k<maxU a b->2*w<nuV a b c k:=by
 obtain ⟨h1,h2,h3⟩:=zGv (maxU a b) fun k=>decide (2*w<nuV a b c k)
 refine ⟨h1,fun k hk=>?_,fun k hk hkM=>?_⟩
 ·have:=of_decide_eq_false (h2 k hk); omega
 ·have h4:2*w<nuV a b c (mostK a b c w):=bg (h3 (Nat.lt_of_le_of_lt hk hkM))
  exact Int.lt_of_lt_of_le h4 (zMM hm k hk hkM)
theorem zOg {w:Int} {m:Nat} (h:∀ k,k<m->nuV a b c k<=2*w):∀ d k,k+d=m->objV a b c w m<=objV a b c w k
 | 0,k,hk=>by
  obtain rfl:k=m:=by omega
  exact bf _
 | d+1,k,hk=>by
  have h1:=zOg h d (k+1) (by omega)
  have h2:=h k (by omega)
  rw [zFS] at h1
  omega
theorem zUY {w:Int} {m M:Nat} (h:∀ k,m<=k->k<M->2*w<=nuV a b c k):∀ d,m+d<=M->objV a b c w m<=objV a b c w (m+d)
 | 0,_=>bf _
 | d+1,hd=>by
  have h1:=zUY h d (by omega)
  have h2:=h (m+d) (by omega) (by omega)
  have h3:=zFS a b c w (m+d)
  rw [show m+(d+1)=m+d+1 by omega,h3]
  omega
theorem zFP (hm:MC a b c) (w:Int) {k:Nat} (hk:k<=maxU a b):zB0 a b c w<=objV a b c w k/\(objV a b c w k=zB0 a b c w↔fewK a b c w<=k/\k<=mostK a b c w):=by
 obtain ⟨f1,f2,f3⟩:=zFF hm w
 obtain ⟨m1,m2,m3⟩:=zK4 hm w
 have hfm:fewK a b c w<=mostK a b c w:=by
  apply aO
  intro h
  have h1:=f2 (mostK a b c w) (by omega)
  have h2:=m3 (mostK a b c w) (ap _) (by omega)
  omega
 have least:∀ k,k<=maxU a b->zB0 a b c w<=objV a b c w k:=fun k hk=>by
  rcases ai k (fewK a b c w) with h|h
  ·exact zOg (fun k hk=>Int.le_of_lt (f2 k hk)) (fewK a b c w - k) k (by omega)
  ·have:=zUY f3 (k - fewK a b c w) (by omega)
   rwa [show fewK a b c w+(k - fewK a b c w)=k by omega] at this
 refine ⟨least k hk,fun he=>⟨?_,?_⟩,fun ⟨h1,h2⟩=>?_⟩
 ·apply aO
  intro h
  have h1:=f2 k (by omega)
  have h2:=least (k+1) (by omega)
  rw [zFS] at h2
  omega
 ·apply aO
  intro h
  have h1:=m3 (k - 1) (by omega) (by omega)
  have h2:=least (k - 1) (by omega)
  have h3:=zFS a b c w (k - 1)
  rw [show k - 1+1=k by omega] at h3
  omega
 ·have h3:=least k hk
  have h4:objV a b c w k<=zB0 a b c w:=by
   have:∀ d,fewK a b c w+d<=mostK a b c w->objV a b c w (fewK a b c w+d)<=zB0 a b c w:=by
    intro d
    induction d with
    | zero=>intro _; exact bf _
    | succ d ih =>
     intro hd
     have h5:=ih (by omega)
     have h6:=m2 (fewK a b c w+d) (by omega)
     rw [show fewK a b c w+(d+1)=fewK a b c w+d+1 by omega,zFS]
     omega
   have:=this (k - fewK a b c w) (by omega)
   rwa [show fewK a b c w+(k - fewK a b c w)=k by omega] at this
  omega
theorem zTI (hm:MC a b c) (w:Int) {q:Nat->Nat->Int} (hq:IsPart a.length b.length (ga a) (ga b) q):zB0 a b c w<=cst a.length b.length (gt c) q+w*(sumL a+sumL b - 2*units a.length b.length q):=by
 have h1:=hq.units_le
 obtain ⟨k,hk⟩:=Int.eq_ofNat_of_zero_le h1.1
 obtain ⟨h2,h3⟩:=zWb hm hq hk
 have h4:=(zFP hm w h2).1
 unfold objV at h4
 rw [hk]
 omega
theorem zTH (hm:MC a b c) (w:Int) {k:Nat} (h1:fewK a b c w<=k) (h2:k<=mostK a b c w):cst a.length b.length (gt c) (gt (stepP a b c k))+w*(sumL a+sumL b - 2*k)=zB0 a b c w:=by
 have hk:k<=maxU a b:=bK h2 (zK4 hm w).1
 rw [(zMR hm hk).2.2,<-((zFP hm w hk).2.2 ⟨h1,h2⟩)]
 rfl
end
section
variable {R C:Nat}
def withD (R:Nat) (a:Nat->Int) (x:Int) (i:Nat):Int:=if i<R then a i else x
def costD (R C:Nat) (c:Nat->Nat->Int) (d e:Int) (i j:Nat):Int:=if i<R then (if j<C then c i j else d) else (if j<C then d else e)
theorem zUo (n:Nat) (a:Nat->Int) (x:Int):sg (n+1) (withD n a x)=sg n a+x:=by
 show sg n (withD n a x)+withD n a x n=_
 rw [zAm (f:=withD n a x) (g:=a) n fun i hi=>ah hi]
 congr 1
 exact ae (aZ n)
variable {a b:Nat->Int} {c Q:Nat->Nat->Int} {m d e:Int}
theorem zQW (hQ:IsPlan (R+1) (C+1) (withD R a (sg C b - m)) (withD C b (sg R a - m)) Q):IsPart R C a b Q/\Q R C=units R C Q - m/\0<=Q R C /\
 cst (R+1) (C+1) (costD R C c d e) Q=cst R C c Q+d*(sg R a+sg C b - 2*units R C Q)+e*(units R C Q - m):=by
 have hrow:∀ i,i<R->rowS C Q i+Q i C=a i:=fun i hi=>by
  have:=hQ.row i (by omega)
  rw [show withD R a (sg C b - m) i=a i from ah hi] at this
  exact this
 have hcol:∀ j,j<C->colS R Q j+Q R j=b j:=fun j hj=>by
  have:=hQ.col j (by omega)
  rw [show withD C b (sg R a - m) j=b j from ah hj] at this
  exact this
 have hrR:rowS C Q R+Q R C=sg C b - m:=by
  have:=hQ.row R (by omega)
  rw [show withD R a (sg C b - m) R=sg C b - m from ae (aZ _)] at this
  exact this
 have hcC:colS R Q C+Q R C=sg R a - m:=by
  have:=hQ.col C (by omega)
  rw [show withD C b (sg R a - m) C=sg R a - m from ae (aZ _)] at this
  exact this
 have s1:units R C Q+colS R Q C=sg R a:=by
  unfold units colS
  rw [<-zCV]
  exact zAm R hrow
 have s2:units R C Q+rowS C Q R=sg C b:=by
  rw [zCN]
  unfold rowS
  rw [<-zCV]
  exact zAm C hcol
 have h0:=hQ.nn R C (by omega) (by omega)
 refine ⟨⟨fun i j hi hj=>hQ.nn i j (by omega) (by omega),fun i hi=>?_,fun j hj=>?_⟩,by omega,h0,?_⟩
 ·have:=hrow i hi
  have:=hQ.nn i C (by omega) (by omega)
  omega
 ·have:=hcol j hj
  have:=hQ.nn R j (by omega) (by omega)
  omega
 ·have e1:cst (R+1) (C+1) (costD R C c d e) Q=sg R (fun i=>sg C (fun j=>c i j*Q i j)+d*Q i C)+(sg C (fun j=>d*Q R j)+e*Q R C):=by
   show sg R (fun i=>sg C (fun j=>costD R C c d e i j*Q i j)+costD R C c d e i C*Q i C)+(sg C (fun j=>costD R C c d e R j*Q R j)+costD R C c d e R C*Q R C)=_
   congr 1
   ·refine zAm R fun i hi=>?_
    congr 1
    ·refine zAm C fun j hj=>?_
     unfold costD
     rw [ah hi,ah hj]
    ·unfold costD
     rw [ah hi,ae (aZ _)]
   ·congr 1
    ·refine zAm C fun j hj=>?_
     unfold costD
     rw [ae (aZ _),ah hj]
    ·unfold costD
     rw [ae (aZ _),ae (aZ _)]
  rw [e1,zCV,zFZ,zFZ]
  have e2:sg R (fun i=>Q i C)=colS R Q C:=rfl
  have e3:sg C (fun j=>Q R j)=rowS C Q R:=rfl
  have e4:sg R (fun i=>sg C fun j=>c i j*Q i j)=cst R C c Q:=rfl
  rw [e2,e3,e4,show colS R Q C=sg R a - units R C Q by omega,show rowS C Q R=sg C b - units R C Q by omega,show Q R C=units R C Q - m by omega,
   show sg R a+sg C b - 2*units R C Q=(sg R a - units R C Q)+(sg C b - units R C Q) by omega,c6]
  omega
def extD (R C:Nat) (a b:Nat->Int) (m:Int) (q:Nat->Nat->Int) (i j:Nat):Int :=
 if i<R then (if j<C then q i j else a i - rowS C q i) else (if j<C then b j - colS R q j else units R C q - m)
theorem zNQ {q:Nat->Nat->Int} (hq:IsPart R C a b q) (hu:m<=units R C q):IsPlan (R+1) (C+1) (withD R a (sg C b - m)) (withD C b (sg R a - m)) (extD R C a b m q)/\(∀ i j,i<R->j<C->extD R C a b m q i j=q i j):=by
 have hin:∀ i j,i<R->j<C->extD R C a b m q i j=q i j:=fun i j hi hj=>by
  unfold extD
  rw [ah hi,ah hj]
 have hiC:∀ i,i<R->extD R C a b m q i C=a i - rowS C q i:=fun i hi=>by
  unfold extD
  rw [ah hi,ae (aZ _)]
 have hRj:∀ j,j<C->extD R C a b m q R j=b j - colS R q j:=fun j hj=>by
  unfold extD
  rw [ae (aZ _),ah hj]
 have hRC:extD R C a b m q R C=units R C q - m:=by
  unfold extD
  rw [ae (aZ _),ae (aZ _)]
 refine ⟨⟨fun i j hi hj=>?_,fun i hi=>?_,fun j hj=>?_⟩,hin⟩
 ·rcases ai i R with h1|h1
  ·rcases ai j C with h2|h2
   ·rw [hin i j h1 h2]; exact hq.nn i j h1 h2
   ·obtain rfl:j=C:=by omega
    rw [hiC i h1]; have:=hq.row i h1; omega
  ·obtain rfl:i=R:=by omega
   rcases ai j C with h2|h2
   ·rw [hRj j h2]; have:=hq.col j h2; omega
   ·obtain rfl:j=C:=by omega
    rw [hRC]; omega
 ·show sg C (fun j=>extD R C a b m q i j)+extD R C a b m q i C=_
  rcases ai i R with h1|h1
  ·rw [zAm C fun j hj=>hin i j h1 hj,hiC i h1,show withD R a (sg C b - m) i=a i from ah h1]
   show rowS C q i+_=_
   omega
  ·obtain rfl:i=R:=by omega
   rw [zAm C fun j hj=>hRj j hj,hRC,show withD i a (sg C b - m) i=sg C b - m from ae (aZ _),zH6,<-zCN]
   omega
 ·show sg R (fun i=>extD R C a b m q i j)+extD R C a b m q R j=_
  rcases ai j C with h1|h1
  ·rw [zAm R fun i hi=>hin i j hi h1,hRj j h1,show withD C b (sg R a - m) j=b j from ah h1]
   show colS R q j+_=_
   omega
  ·obtain rfl:j=C:=by omega
   rw [zAm R fun i hi=>hiC i hi,hRC,show withD j b (sg R a - m) j=sg R a - m from ae (aZ _),zH6]
   show sg R a - units R j q+_=_
   omega
theorem zNm {p q:Nat->Nat->Int} (h:∀ i j,i<R->j<C->p i j=q i j):units R C p=units R C q:=zAm R fun i hi=>zAm C fun j hj=>h i j hi hj
theorem zOR {p q:Nat->Nat->Int} (h:∀ i j,i<R->j<C->p i j=q i j):cst R C c p=cst R C c q:=zAm R fun i hi=>zAm C fun j hj=>by rw [h i j hi hj]
theorem zQV {q:Nat->Nat->Int} (hq:IsPart R C a b q) (hu:m<=units R C q):cst (R+1) (C+1) (costD R C c d e) (extD R C a b m q)=cst R C c q+d*(sg R a+sg C b - 2*units R C q)+e*(units R C q - m):=by
 obtain ⟨h1,h2⟩:=zNQ hq hu
 rw [(zQW (c:=c) (d:=d) (e:=e) h1).2.2.2,zNm h2,zOR h2]
end
section
variable {a b:List Int} {c:List (List Int)}
theorem zIC (hm:MC a b c) (w:Int) {v:Int} (h1:∃ Q,IsPlan (a.length+1) (b.length+1) (withD a.length (ga a) (sumL b - 0)) (withD b.length (ga b) (sumL a - 0)) Q/\cst (a.length+1) (b.length+1) (costD a.length b.length (gt c) w 0) Q=v)
 (h2:∀ Q,IsPlan (a.length+1) (b.length+1) (withD a.length (ga a) (sumL b - 0)) (withD b.length (ga b) (sumL a - 0)) Q->v<=cst (a.length+1) (b.length+1) (costD a.length b.length (gt c) w 0) Q):v=zB0 a b c w:=by
 obtain ⟨Q,hQ,he⟩:=h1
 obtain ⟨k1,k2,k3,k4⟩:=zQW (c:=gt c) (d:=w) (e:=0) hQ
 have h3:=zTI hm w k1
 have hf:=(zFF hm w).1
 obtain ⟨p1,p2,p3⟩:=zMR hm hf
 have hu:(0:Int)<=units a.length b.length (gt (stepP a b c (fewK a b c w))):=by rw [p2]; omega
 have h4:=h2 _ (zNQ p1 hu).1
 rw [zQV p1 hu] at h4
 have h5:=zTH hm w (ap _) (((zFP hm w hf).2.1 rfl).2)
 rw [<-p2] at h5
 rw [he] at k4
 have e1:sumL a=sg a.length (ga a):=rfl
 have e2:sumL b=sg b.length (ga b):=rfl
 rw [<-e1,<-e2] at k4 h4
 omega
end
end Go.OT
namespace Go.OT
section
variable {R C:Nat} {a b:Nat->Int} {c q:Nat->Nat->Int} {u v:Nat->Int} {w:Int}
theorem zMs {U V:Nat->Int} (h:Holds (R+1) (C+1) (costD R C c w 0) U V) (hm:U R+V C<=0) :
 Holds R C c (fun i=>U i+V C) (fun j=>V j+U R)/\(∀ i,i<R->U i+V C<=w)/\(∀ j,j<C->V j+U R<=w) /\
 worth R C a b (fun i=>U i+V C) (fun j=>V j+U R)=worth (R+1) (C+1) (withD R a (sg C b)) (withD C b (sg R a)) U V:=by
 have hij:∀ i j,i<R->j<C->U i+V j<=c i j:=fun i j hi hj=>by
  have:=h i j (by omega) (by omega)
  unfold costD at this
  rwa [ah hi,ah hj] at this
 refine ⟨fun i j hi hj=>?_,fun i hi=>?_,fun j hj=>?_,?_⟩
 ·have:=hij i j hi hj
  dsimp only
  omega
 ·have:=h i C (by omega) (by omega)
  unfold costD at this
  rwa [ah hi,ae (aZ _)] at this
 ·have:=h R j (by omega) (by omega)
  unfold costD at this
  rw [ae (aZ _),ah hj] at this
  omega
 ·unfold worth
  have e1:sg (R+1) (fun i=>withD R a (sg C b) i*U i)=sg R (fun i=>a i*U i)+sg C b*U R:=by
   show sg R (fun i=>withD R a (sg C b) i*U i)+withD R a (sg C b) R*U R=_
   congr 1
   ·exact zAm R fun i hi=>by rw [show withD R a (sg C b) i=a i from ah hi]
   ·rw [show withD R a (sg C b) R=sg C b from ae (aZ _)]
  have e2:sg (C+1) (fun j=>withD C b (sg R a) j*V j)=sg C (fun j=>b j*V j)+sg R a*V C:=by
   show sg C (fun j=>withD C b (sg R a) j*V j)+withD C b (sg R a) C*V C=_
   congr 1
   ·exact zAm C fun j hj=>by rw [show withD C b (sg R a) j=b j from ah hj]
   ·rw [show withD C b (sg R a) C=sg R a from ae (aZ _)]
  have e3:sg R (fun i=>a i*(U i+V C))=sg R (fun i=>a i*U i)+sg R a*V C:=by
   rw [bN (sg R a),<-zFZ,<-zCV]
   exact zAm R fun i _=>by rw [c6,bN (V C)]
  have e4:sg C (fun j=>b j*(V j+U R))=sg C (fun j=>b j*V j)+sg C b*U R:=by
   rw [bN (sg C b),<-zFZ,<-zCV]
   exact zAm C fun j _=>by rw [c6,bN (U R)]
  rw [e1,e2,e3,e4]
  omega
end
section
variable {a b:List Int} {c:List (List Int)}
theorem zV1 (hm:MC a b c) {k:Nat} (hk:k<=maxU a b):0<=sumL a+sumL b - 2*(k:Int):=by
 have:=hm.sum_nn
 unfold maxU at hk
 omega
theorem zIW (hm:MC a b c) (w:Int):zB0 a b c w<=w*(sumL a+sumL b):=by
 have h1:=(zFP hm w (aq _)).1
 unfold objV at h1
 have e:partV a b c 0=0:=rfl
 rw [e] at h1
 have:sumL a+sumL b - 2*((0:Nat):Int)=sumL a+sumL b:=by omega
 rw [this] at h1
 omega
theorem zTJ (hm:MC a b c) {w:Int} (hw:0<=w):0<=zB0 a b c w:=by
 have f:=(zFF hm w).1
 have h1:=zHc hm _ f
 have h2:=Int.mul_nonneg hw (zV1 hm f)
 have e:zB0 a b c w=objV a b c w (fewK a b c w):=rfl
 unfold objV at e
 omega
end
end Go.OT
namespace Go.Proofs.YtekfodeknpnkbaaGreatDoor
open Go.RowKit Go.VS
theorem kr {p : Prop} (h : p := by kernel_rfl) : p := h
theorem kq {p : Prop} (h : p := by as_aux_lemma => kernel_rfl) : p := h
theorem andS {p q:Prop} (hq:q) (hp:p:=by first|omega|(unfold InR; omega)|assumption|decide|exact ⟨_,_,rfl⟩):p/\q:=⟨hp,hq⟩
theorem bqa {p:Prop} [Decidable p]:(decide p=true)=p:=au
theorem bqb {p:Prop} [Decidable p]:decide p=false↔¬p:=cB
theorem bqc {b:Bool}:((!b)=true)=(b=false):=co b
theorem bqd {b:Bool}:((!b)=false)=(b=true):=Bool.not_eq_false' b
theorem bqe:(true=false)=False:=Bool.true_eq_false
theorem bqf:(false=true)=False:=aQ
attribute [push_cast] Int.cast_ofNat_Int
theorem cI:type_of% @Int.cast_ofNat_Int:=@Int.cast_ofNat_Int
theorem kA:(type_of% @kN)/\(type_of% @kP)/\(type_of% @kG)/\(type_of% @qN)/\(type_of% @qP)/\(type_of% @qG):=⟨@kN,@kP,@kG,@qN,@qP,@qG⟩
theorem bq:(type_of% @bqa)/\(type_of% @bqb)/\(type_of% @bqc)/\(type_of% @bqd)/\(type_of% @bqe)/\(type_of% @bqf):=⟨@bqa,@bqb,@bqc,@bqd,@bqe,@bqf⟩
theorem kc {f:Nat} {c:Con} {l:List (Nat×Con)} (h:FnSpec Tryz.prog f c) (t:∀ p∈l,FnSpec Tryz.prog p.1 p.2):∀ p∈(f,c)::l,FnSpec Tryz.prog p.1 p.2:=all_cons h t
theorem auA {p:Prop} (h:p:=by repeat' (first|(refine goK (by assumption) ?_; iterate 4 (try clear hK K))|(refine zAb fun K hK=>?_)|((first|refine zAa hE rfl ?_|refine zAi ?_); simp +contextual only [hnl,↓kA,push_cast,seval,reduceCtorEq,cI])|refine zAc ?_|((first|refine zAg ?_|refine zAj ?_); simp only [thenQ,zAh,if_true,if_false,Nat.reduceEqDiff,reduceCtorEq])|(refine zAe (by rfl) (fun hb=>?_) (fun hb=>?_)<;>(try simp only [bq,reduceCtorEq] at hb)<;>(try omega))|refine zAF (by rfl) ?_ ?_|refine andS ?_|(refine ⟨fun hc=>?_,fun hc=>?_⟩)|(intro hc; try omega))):p:=h
theorem auB {p:Prop} (h:p:=by repeat' (first|(refine goK (by assumption) ?_; iterate 4 (try clear hK K))|(refine zAb fun K hK=>?_)|((first|refine zAa hE rfl ?_|refine zAi ?_|((first|refine zAd hE 1 rfl rfl kr ?_|refine zAd hE 2 rfl rfl kr ?_|refine zAd hE 3 rfl rfl kr ?_|refine zAd hE 4 rfl rfl kr ?_); simp only [ao,List.length_nil,Nat.reduceAdd,Nat.reduceSub,ak,List.take_zero,al,ar])); simp +contextual only [hnl,↓kA,push_cast,seval,reduceCtorEq,cI])|refine zAc ?_|((first|refine zAg ?_|refine zAj ?_); simp only [thenQ,zAh,if_true,if_false,Nat.reduceEqDiff,reduceCtorEq])|(refine zAe (by rfl) (fun hb=>?_) (fun hb=>?_)<;>(try simp only [bq,reduceCtorEq] at hb)<;>(try omega))|refine zAF (by rfl) ?_ ?_|refine andS ?_|(refine ⟨fun hc=>?_,fun hc=>?_⟩)|(intro hc; try omega))):p:=h
theorem auC {p:Prop} (h:p:=by repeat' (first|(refine goK (by assumption) ?_; iterate 4 (try clear hK K))|(refine zAb fun K hK=>?_)|((first|refine zAa hE rfl ?_|refine zAi ?_|((first|refine zAd hE 1 rfl rfl kr ?_|refine zAd hE 2 rfl rfl kr ?_|refine zAd hE 3 rfl rfl kr ?_|refine zAd hE 4 rfl rfl kr ?_); simp only [ao,List.length_nil,Nat.reduceAdd,Nat.reduceSub,ak,List.take_zero,al,ar])); simp +contextual only [hnl,↓kA,push_cast,seval,reduceCtorEq])|refine zAc ?_|((first|refine zAg ?_|refine zAj ?_); simp only [thenQ,zAh,if_true,if_false,Nat.reduceEqDiff,reduceCtorEq])|(refine zAe (by rfl) (fun hb=>?_) (fun hb=>?_)<;>(try simp only [bq,reduceCtorEq] at hb)<;>(try omega))|refine zAF (by rfl) ?_ ?_|refine andS ?_|(refine ⟨fun hc=>?_,fun hc=>?_⟩)|(intro hc; try omega))):p:=h
theorem auD {p:Prop} (h:p:=by repeat' (first|(refine goK (by assumption) ?_; iterate 4 (try clear hK K))|(refine zAb fun K hK=>?_)|((first|refine zAa hE rfl ?_|refine zAi ?_); simp +contextual only [hnl,↓kA,push_cast,seval,reduceCtorEq])|refine zAc ?_|((first|refine zAg ?_|refine zAj ?_); simp only [thenQ,zAh,if_true,if_false,Nat.reduceEqDiff,reduceCtorEq])|(refine zAe (by rfl) (fun hb=>?_) (fun hb=>?_)<;>(try simp only [bq,reduceCtorEq] at hb)<;>(try omega))|refine zAF (by rfl) ?_ ?_|refine andS ?_|(refine ⟨fun hc=>?_,fun hc=>?_⟩)|(intro hc; try omega))):p:=h
def tab:Tab where
 sh:=[(3,.int),(4,.bool),(38,.sl .int),(31,.int),(22,.sl (.sl .int)),(84,.sl .int),(66,.prod (.sl .int) (.sl .int)),(169,.prod (.sl (.sl .int)) (.sl .int)),(9,.str),(5,.byte),(55,.uint),(100,.int),(147,.prod .int .unit),(23,.sl .str),(138,.sl .byte),(97,.prod (.sl (.sl .int)) (.prod (.sl .int) (.prod (.sl .int) .int))),(61,.prod .str .int),(56,.sl (.prod .str .int)),(150,.prod .int .int),(68,.prod (.sl (.sl .int)) (.prod (.sl .int) (.sl .int))),(75,.prod (.sl (.sl .int)) (.prod (.sl .str) .int)),(102,.err 147)]
 el:=[(38,3),(22,38),(84,31),(23,9),(138,5),(56,61)]
 plain:=[3,4,38,31,22,84,9,5,55,100,23,138,56,102,177,142]
 fld:=[(66,[(0,38),(1,38)]),(169,[(0,22),(1,38)]),(147,[(0,31)]),(97,[(0,22),(1,38),(2,38),(3,3)]),(61,[(0,9),(1,3)]),(150,[(0,100),(1,3)]),(68,[(0,22),(1,66)]),(75,[(0,22),(1,23),(2,3)]),(99,[(0,95),(2,22),(3,97),(7,23),(8,9)]),(58,[(0,22),(1,38),(2,38),(3,3),(4,3),(5,56)])]
 ones:=[(66,2),(169,2),(147,1),(97,4),(61,2),(150,2),(75,3)]
 fns:=[177,142]
 ptrs:=[27,28,160]
 ifs:=[102]
 concs:=[147]
 obs:=[(99,[.raw (.int .i32 0),.raw (.int .u32 0),.nils,.nils,.nils,.nils,.val .int (0:Int),.nils,.val .str ByteArray.empty],[(0,2),(2,1),(3,4),(7,1),(8,1)]),(58,[.nils,.nils,.nils,.val .int (0:Int),.val .int (0:Int),.nils],[(0,1),(1,1),(2,1),(3,1),(4,1),(5,1)])]
 maps:=[152]
theorem tabOK:TabOK Tryz.prog tab:=by
 refine ⟨by kernel_rfl,by kernel_rfl,by kernel_rfl,by kernel_rfl,by kernel_rfl,by kernel_rfl,by kernel_rfl,?_,by kernel_rfl,by kernel_rfl,by kernel_rfl,by kernel_rfl,by kernel_rfl,by kernel_rfl,by kernel_rfl,?_⟩
 ·intro t ht w a b c d x y
  have hm:=zF0 ht
  simp only [tab,aI,bA,aK,reduceCtorEq,and_false,or_false,false_or,and_true,Sh.prod.injEq] at hm
  obtain rfl:=hm
  exact zT4 (ti:=100) (tj:=3) kr kr kr kr kr kr w a b c d x y
 ·intro t ht w a b c d x y
  have hm:=zF0 ht
  simp only [tab,aI,bA,aK,reduceCtorEq,and_false,or_false,false_or,and_true,Sh.prod.injEq] at hm
  obtain rfl:=hm
  exact zTE (ti:=9) (tj:=3) kr kr kr kr kr kr w a b c d x y
theorem shI:tab.lang.sh 3=some (.int):=rfl
theorem shB:tab.lang.sh 4=some (.bool):=rfl
theorem shS:tab.lang.sh 38=some (.sl .int):=rfl
theorem shE:tab.lang.sh 31=some (.int):=rfl
theorem shT:tab.lang.sh 22=some (.sl (.sl .int)):=rfl
theorem shLE:tab.lang.sh 84=some (.sl .int):=rfl
theorem shPr:tab.lang.sh 66=some (.prod (.sl .int) (.sl .int)):=rfl
theorem shFo:tab.lang.sh 169=some (.prod (.sl (.sl .int)) (.sl .int)):=rfl
theorem shSt:tab.lang.sh 9=some (.str):=rfl
theorem shU8:tab.lang.sh 5=some (.byte):=rfl
theorem shUi:tab.lang.sh 55=some (.uint):=rfl
theorem shKd:tab.lang.sh 100=some (.int):=rfl
theorem shRf:tab.lang.sh 147=some (.prod .int .unit):=rfl
theorem shLS:tab.lang.sh 23=some (.sl .str):=rfl
theorem shLB:tab.lang.sh 138=some (.sl .byte):=rfl
theorem shSta:tab.lang.sh 97=some (.prod (.sl (.sl .int)) (.prod (.sl .int) (.prod (.sl .int) .int))):=rfl
theorem shLi:tab.lang.sh 61=some (.prod .str .int):=rfl
theorem shLLi:tab.lang.sh 56=some (.sl (.prod .str .int)):=rfl
theorem shFm:tab.lang.sh 150=some (.prod .int .int):=rfl
theorem shOf9:tab.lang.sh 68=some (.prod (.sl (.sl .int)) (.prod (.sl .int) (.sl .int))):=rfl
theorem shSm:tab.lang.sh 75=some (.prod (.sl (.sl .int)) (.prod (.sl .str) .int)):=rfl
theorem shEr:tab.lang.sh 102=some (.err 147):=rfl
theorem onPr:tab.lang.ones 66=some 2:=rfl
theorem fdPr0:tab.lang.fld 66 0=some (2,0):=rfl
theorem fdPr1:tab.lang.fld 66 1=some (2,1):=rfl
theorem onFo:tab.lang.ones 169=some 2:=rfl
theorem fdFo0:tab.lang.fld 169 0=some (2,0):=rfl
theorem fdFo1:tab.lang.fld 169 1=some (2,1):=rfl
theorem onRf:tab.lang.ones 147=some 1:=rfl
theorem fdRf0:tab.lang.fld 147 0=some (1,0):=rfl
theorem onSta:tab.lang.ones 97=some 4:=rfl
theorem zXd:tab.lang.fld 97 0=some (4,0):=rfl
theorem zXe:tab.lang.fld 97 1=some (4,1):=rfl
theorem zXf:tab.lang.fld 97 2=some (4,2):=rfl
theorem zXg:tab.lang.fld 97 3=some (4,3):=rfl
theorem onLi:tab.lang.ones 61=some 2:=rfl
theorem fdLi0:tab.lang.fld 61 0=some (2,0):=rfl
theorem fdLi1:tab.lang.fld 61 1=some (2,1):=rfl
theorem onFm:tab.lang.ones 150=some 2:=rfl
theorem fdFm0:tab.lang.fld 150 0=some (2,0):=rfl
theorem fdFm1:tab.lang.fld 150 1=some (2,1):=rfl
theorem zXb:tab.lang.fld 68 0=some (2,0):=rfl
theorem zXc:tab.lang.fld 68 1=some (2,1):=rfl
theorem onSm:tab.lang.ones 75=some 3:=rfl
theorem fdSm0:tab.lang.fld 75 0=some (3,0):=rfl
theorem fdSm1:tab.lang.fld 75 1=some (3,1):=rfl
theorem fdSm2:tab.lang.fld 75 2=some (3,2):=rfl
theorem obPr:tab.lang.ob 66=none:=rfl
theorem obFo:tab.lang.ob 169=none:=rfl
theorem obRf:tab.lang.ob 147=none:=rfl
theorem obSta:tab.lang.ob 97=none:=rfl
theorem obLi:tab.lang.ob 61=none:=rfl
theorem obFm:tab.lang.ob 150=none:=rfl
theorem obOf9:tab.lang.ob 68=none:=rfl
theorem obSm:tab.lang.ob 75=none:=rfl
theorem elS:tab.lang.el 38=3:=rfl
theorem elT:tab.lang.el 22=38:=rfl
theorem elLE:tab.lang.el 84=31:=rfl
theorem elLS:tab.lang.el 23=9:=rfl
theorem elLB:tab.lang.el 138=5:=rfl
theorem elLLi:tab.lang.el 56=61:=rfl
theorem fnF1:tab.lang.fnT 177=true:=rfl
theorem shF1:tab.lang.sh 177=none:=rfl
theorem plF1:tab.lang.plain 177=true:=rfl
theorem fnF2:tab.lang.fnT 142=true:=rfl
theorem shF2:tab.lang.sh 142=none:=rfl
theorem plF2:tab.lang.plain 142=true:=rfl
theorem plI:tab.lang.plain 3=true:=rfl
theorem plB:tab.lang.plain 4=true:=rfl
theorem plS:tab.lang.plain 38=true:=rfl
theorem plE:tab.lang.plain 31=true:=rfl
theorem plT:tab.lang.plain 22=true:=rfl
theorem plLE:tab.lang.plain 84=true:=rfl
theorem plPr:tab.lang.plain 66=false:=rfl
theorem plFo:tab.lang.plain 169=false:=rfl
theorem plSt:tab.lang.plain 9=true:=rfl
theorem plU8:tab.lang.plain 5=true:=rfl
theorem plUi:tab.lang.plain 55=true:=rfl
theorem plKd:tab.lang.plain 100=true:=rfl
theorem plRf:tab.lang.plain 147=false:=rfl
theorem plLS:tab.lang.plain 23=true:=rfl
theorem plLB:tab.lang.plain 138=true:=rfl
theorem plSta:tab.lang.plain 97=false:=rfl
theorem plLi:tab.lang.plain 61=false:=rfl
theorem plLLi:tab.lang.plain 56=true:=rfl
theorem plFm:tab.lang.plain 150=false:=rfl
theorem plOf9:tab.lang.plain 68=false:=rfl
theorem plSm:tab.lang.plain 75=false:=rfl
theorem plEr:tab.lang.plain 102=true:=rfl
theorem fdHs0:tab.lang.fld 99 0=some (5,0):=rfl
theorem fdHs1:tab.lang.fld 99 1=some (5,2):=rfl
theorem fdHs2:tab.lang.fld 99 2=some (5,3):=rfl
theorem fdHs3:tab.lang.fld 99 3=some (5,7):=rfl
theorem fdHs4:tab.lang.fld 99 4=some (5,8):=rfl
theorem plHs:tab.lang.plain 99=false:=rfl
theorem shHs:tab.lang.sh 99=none:=rfl
theorem obHs:tab.lang.ob 99=some ([.raw (.int .i32 0),.raw (.int .u32 0),.nils,.nils,.nils,.nils,.val .int (0:Int),.nils,.val .str ByteArray.empty],[(0,2),(2,1),(3,4),(7,1),(8,1)]):=rfl
theorem fdRh0:tab.lang.fld 58 0=some (6,0):=rfl
theorem fdRh1:tab.lang.fld 58 1=some (6,1):=rfl
theorem fdRh2:tab.lang.fld 58 2=some (6,2):=rfl
theorem fdRh3:tab.lang.fld 58 3=some (6,3):=rfl
theorem fdRh4:tab.lang.fld 58 4=some (6,4):=rfl
theorem fdRh5:tab.lang.fld 58 5=some (6,5):=rfl
theorem plRh:tab.lang.plain 58=false:=rfl
theorem shRh:tab.lang.sh 58=none:=rfl
theorem obRh:tab.lang.ob 58=some ([.nils,.nils,.nils,.val .int (0:Int),.val .int (0:Int),.nils],[(0,1),(1,1),(2,1),(3,1),(4,1),(5,1)]):=rfl
theorem pt0:tab.lang.ptrT 27=true:=rfl
theorem pt1:tab.lang.ptrT 28=true:=rfl
theorem pt2:tab.lang.ptrT 160=true:=rfl
theorem if0:tab.lang.ifT 102=true:=rfl
theorem cc0:tab.lang.conc 147=true:=rfl
theorem mp0:tab.lang.mp 152=true:=rfl
def know (l:List (Nat×Con)) (k:List (Nat×Clo)) (r:List (Nat×Rec):=[]) (own:List Nat:=[]):Know:=⟨tab.lang,fun f=>lk none (l.map fun p=>(p.1,some p.2)) f,fun f=>lk none (k.map fun p=>(p.1,some p.2)) f,fun f=>lk none (r.map fun p=>(p.1,some p.2)) f,own⟩
theorem zAl {l:List (Nat×Con)} {k:List (Nat×Clo)} {r:List (Nat×Rec)} {own:List Nat} (h1:∀ p∈l,FnSpec Tryz.prog p.1 p.2) (h2:∀ p∈k,CloSpec Tryz.prog p.1 p.2) (h3:∀ p∈r,RecSpec Tryz.prog p.1 p.2):KnowOK Tryz.prog (know l k r own) :=
 ⟨tabOK.lang,fun f c hf=>by obtain ⟨v,h3,rfl⟩:=zDK (g:=fun x:Con=>x) hf; exact h1 _ h3,fun f c hf=>by obtain ⟨v,h3,rfl⟩:=zDK (g:=fun x:Clo=>x) hf; exact h2 _ h3,fun f c hf=>by obtain ⟨v,h4,rfl⟩:=zDK (g:=fun x:Rec=>x) hf; exact h3 _ h4⟩
theorem zXu (l:List (Nat×Con)) (k:List (Nat×Clo)) (r:List (Nat×Rec)) (own:List Nat):(know l k r own).G=tab.lang:=rfl
theorem zXx (l:List (Nat×Con)) (k:List (Nat×Clo)) (r:List (Nat×Rec)) (own:List Nat) (f:FuncId):(know l k r own).T f=lk none (l.map fun p=>(p.1,some p.2)) f:=rfl
theorem zXv (l:List (Nat×Con)) (k:List (Nat×Clo)) (r:List (Nat×Rec)) (own:List Nat) (f:FuncId):(know l k r own).K f=lk none (k.map fun p=>(p.1,some p.2)) f:=rfl
theorem zXw (l:List (Nat×Con)) (k:List (Nat×Clo)) (r:List (Nat×Rec)) (own:List Nat) (f:FuncId):(know l k r own).R f=lk none (r.map fun p=>(p.1,some p.2)) f:=rfl
theorem zTw (l:List (Nat×Con)) (k:List (Nat×Clo)) (r:List (Nat×Rec)) (own:List Nat):(know l k r own).own=own:=rfl
attribute [push_cast] shI shB shS shE shT shLE shPr shFo shSt shU8 shUi shKd shRf shLS shLB shSta shLi shLLi shFm shOf9 shSm shEr onPr fdPr0 fdPr1 onFo fdFo0 fdFo1 onRf fdRf0 onSta zXd zXe zXf zXg onLi fdLi0 fdLi1 onFm fdFm0 fdFm1 zXb zXc onSm fdSm0 fdSm1 fdSm2 obPr obFo obRf obSta obLi obFm obOf9 obSm elS elT elLE elLS elLB elLLi fnF1 shF1 plF1 fnF2 shF2 plF2 plI plB plS plE plT plLE plPr plFo plSt plU8 plUi plKd plRf plLS plLB plSta plLi plLLi plFm plOf9 plSm plEr fdHs0 fdHs1 fdHs2 fdHs3 fdHs4 plHs shHs obHs fdRh0 fdRh1 fdRh2 fdRh3 fdRh4 fdRh5 plRh shRh obRh pt0 pt1 pt2 if0 cc0 mp0 zXu zXx zXv zXw zTw
end Go.Proofs.YtekfodeknpnkbaaGreatDoor
namespace Go.Proofs.YtekfodeknpnkbaaGreatDoor
open Go.RowKit Go.VS
def lsum:List Int->Int
 | []=>0
 | x::l=>x+lsum l
theorem zBR:∀ (l:List Int) (k:Nat),k<l.length->lsum (l.take (k+1))=lsum (l.take k)+l.getD k 0
 | [],_,h=>by simp at h
 | x::l,0,_=>by simp [lsum]
 | x::l,k+1,h=>by
  have:=zBR l k (by simpa using h)
  simp only [ak,lsum,this,List.getD_cons_succ]
  omega
def findI {α:Type} (p:α->Bool):List α->Int
 | [] => -1
 | x::l=>if p x then 0 else (let r:=findI p l; if r<0 then -1 else r+1)
theorem zG6 {α:Type} (p:α->Bool):∀ (l:List α),-1<=findI p l
 | []=>by simp [findI]
 | x::l=>by
  have:=zG6 p l
  simp only [findI]
  split
  ·omega
  ·split<;>omega
theorem zQ3 {α:Type} (p:α->Bool) (l:List α) (h:findI p l<0):findI p l = -1:=by
 have:=zG6 p l
 omega
theorem zKK {α:Type} (p:α->Bool):∀ (l:List α),(0<=findI p l↔l.any p=true)
 | []=>by simp [findI]
 | x::l=>by
  have h1:=zKK p l
  have h2:=zG6 p l
  simp only [findI,List.any_cons]
  cases hx:p x with
  | true=>simp
  | false =>
   simp only [aQ,if_false,bC]
   rw [<-h1]
   split<;>omega
@[push_cast] def zOz:Con:=⟨[.dat (.sl .int)],fun (x:List Int×Unit)=>∀ k,InR (lsum (x.1.take k)),fun (x:List Int×Unit)=>{res:=[.val .int (lsum x.1)]}⟩
@[push_cast] def zEH:Con:=⟨[.dat .int,.dat .int,.dat .int],fun _=>True,fun (x:Int×Int×Int×Unit)=>{res:=[.val .bool (decide (x.2.1<=x.1/\x.1<=x.2.2.1))]}⟩
@[push_cast] def zUW (m:Int):Con:=⟨[.dat .int],fun _=>True,fun (x:Int×Unit)=>{res:=[.val .bool (decide (x.1<0) || decide (m<x.1))]}⟩
@[push_cast] def zOd (m:Int):Clo:=⟨[],[.int],.bool,fun _ _=>True,fun _ (x:Int×Unit)=>decide (x.1<0) || decide (m<x.1)⟩
@[push_cast] def zTu:Con:=⟨[.dat (.sl .int),.fnc [.int] .bool],fun (x:List Int×((Int×Unit->Prop)×(Int×Unit->Bool))×Unit)=>∀ y,x.2.1.1 y,fun (x:List Int×((Int×Unit->Prop)×(Int×Unit->Bool))×Unit)=>{res:=[.val .int (findI (fun y=>x.2.1.2 (y,())) x.1)]}⟩
@[push_cast] def zCv:Con:=⟨[.dat (.sl .int),.fnc [.int] .bool],fun (x:List Int×((Int×Unit->Prop)×(Int×Unit->Bool))×Unit)=>∀ y,x.2.1.1 y,fun (x:List Int×((Int×Unit->Prop)×(Int×Unit->Bool))×Unit)=>{res:=[.val .bool (x.1.any fun y=>x.2.1.2 (y,()))]}⟩
theorem zIg:FnSpec Tryz.prog 168 zEH:=by
 refine FnSpec.of_tri' (E:=know [] [] [] []) (zAl all_nil all_nil all_nil) Tryz.func168 rfl rfl kr ?_
 intro C x hE hnl hfit hpre
 simp only [Tryz.ntmps168,Tryz.results168,maxLen,seval,push_cast] at hnl hfit hpre ⊢
 obtain ⟨(n:Int),(lo:Int),(hi:Int),_⟩:=x
 dsimp only at hfit hpre ⊢
 repeat' (first|(refine goK (by assumption) ?_; iterate 4 (try clear hK K))|(refine zAb fun K hK=>?_)|((first|refine zAa hE rfl ?_|refine zAi ?_); simp +contextual only [hnl,↓kA,push_cast,seval,reduceCtorEq,cI])|(refine ⟨fun hc=>?_,fun hc=>?_⟩)|fail)
 all_goals first|omega|(simp only [decide_eq_decide]; omega)|(simp only [hc,decide_true,decide_false,Bool.true_or,bC]; done)|(simp; done)|(simp; omega)|(simp [*]; done)|(simp [*]; omega)
theorem zGO:FnSpec Tryz.prog 86 zEH:=by
 refine FnSpec.of_tri' (E:=know [] [] [] []) (zAl all_nil all_nil all_nil) Tryz.func86 rfl rfl kr ?_
 intro C x hE hnl hfit hpre
 simp only [Tryz.ntmps86,Tryz.results86,maxLen,seval,push_cast] at hnl hfit hpre ⊢
 obtain ⟨(n:Int),(lo:Int),(hi:Int),_⟩:=x
 dsimp only at hfit hpre ⊢
 repeat' (first|(refine goK (by assumption) ?_; iterate 4 (try clear hK K))|(refine zAb fun K hK=>?_)|((first|refine zAa hE rfl ?_|refine zAi ?_); simp +contextual only [hnl,↓kA,push_cast,seval,reduceCtorEq,cI])|(refine ⟨fun hc=>?_,fun hc=>?_⟩)|fail)
 all_goals first|omega|(simp only [decide_eq_decide]; omega)|(simp only [hc,decide_true,decide_false,Bool.true_or,bC]; done)|(simp; done)|(simp; omega)|(simp [*]; done)|(simp [*]; omega)
theorem zGP:FnSpec Tryz.prog 176 zEH:=by
 refine FnSpec.of_tri' (E:=know [] [] [] []) (zAl all_nil all_nil all_nil) Tryz.func176 rfl rfl kr ?_
 intro C x hE hnl hfit hpre
 simp only [Tryz.ntmps176,Tryz.results176,maxLen,seval,push_cast] at hnl hfit hpre ⊢
 obtain ⟨(n:Int),(lo:Int),(hi:Int),_⟩:=x
 dsimp only at hfit hpre ⊢
 repeat' (first|(refine goK (by assumption) ?_; iterate 4 (try clear hK K))|(refine zAb fun K hK=>?_)|((first|refine zAa hE rfl ?_|refine zAi ?_); simp +contextual only [hnl,↓kA,push_cast,seval,reduceCtorEq,cI])|(refine ⟨fun hc=>?_,fun hc=>?_⟩)|fail)
 all_goals first|omega|(simp only [decide_eq_decide]; omega)|(simp only [hc,decide_true,decide_false,Bool.true_or,bC]; done)|(simp; done)|(simp; omega)|(simp [*]; done)|(simp [*]; omega)
theorem zSP:FnSpec Tryz.prog 164 (zUW 30):=by
 refine FnSpec.of_tri' (E:=know [] [] [] []) (zAl all_nil all_nil all_nil) Tryz.func164 rfl rfl kr ?_
 intro C x hE hnl hfit hpre
 simp only [Tryz.ntmps164,Tryz.results164,maxLen,seval,push_cast] at hnl hfit hpre ⊢
 obtain ⟨(n:Int),_⟩:=x
 dsimp only at hfit hpre ⊢
 repeat' (first|(refine goK (by assumption) ?_; iterate 4 (try clear hK K))|(refine zAb fun K hK=>?_)|((first|refine zAa hE rfl ?_|refine zAi ?_); simp +contextual only [hnl,↓kA,push_cast,seval,reduceCtorEq,cI])|(refine ⟨fun hc=>?_,fun hc=>?_⟩)|fail)
 all_goals first|omega|(simp only [decide_eq_decide]; omega)|(simp only [hc,decide_true,decide_false,Bool.true_or,bC]; done)|(simp; done)|(simp; omega)|(simp [*]; done)|(simp [*]; omega)
theorem zNn:CloSpec Tryz.prog 164 (zOd 30):=CloSpec.of zSP
theorem zP0:FnSpec Tryz.prog 135 (zUW 150):=by
 refine FnSpec.of_tri' (E:=know [] [] [] []) (zAl all_nil all_nil all_nil) Tryz.func135 rfl rfl kr ?_
 intro C x hE hnl hfit hpre
 simp only [Tryz.ntmps135,Tryz.results135,maxLen,seval,push_cast] at hnl hfit hpre ⊢
 obtain ⟨(n:Int),_⟩:=x
 dsimp only at hfit hpre ⊢
 repeat' (first|(refine goK (by assumption) ?_; iterate 4 (try clear hK K))|(refine zAb fun K hK=>?_)|((first|refine zAa hE rfl ?_|refine zAi ?_); simp +contextual only [hnl,↓kA,push_cast,seval,reduceCtorEq,cI])|(refine ⟨fun hc=>?_,fun hc=>?_⟩)|fail)
 all_goals first|omega|(simp only [decide_eq_decide]; omega)|(simp only [hc,decide_true,decide_false,Bool.true_or,bC]; done)|(simp; done)|(simp; omega)|(simp [*]; done)|(simp [*]; omega)
theorem zLM:CloSpec Tryz.prog 135 (zOd 150):=CloSpec.of zP0
theorem zKE {α:Type} (d:α) {l:List α} {k:Nat} (h:k<l.length):l.drop k=l.getD k d::l.drop (k+1):=by
 rw [<-List.getElem_cons_drop (h:=h)]
 simp [ab,h]
theorem zPa:FnSpec Tryz.prog 173 zTu:=by
 refine FnSpec.of_tri' (E:=know [] [] [] []) (zAl all_nil all_nil all_nil) Tryz.func173 rfl rfl kr ?_
 intro C x hE hnl hfit hpre
 simp only [Tryz.ntmps173,Tryz.results173,maxLen,seval,push_cast] at hnl hfit hpre ⊢
 obtain ⟨(l:List Int),⟨q,p⟩,_⟩:=x
 dsimp only at hfit hpre ⊢
 repeat' (first|(refine goK (by assumption) ?_; iterate 4 (try clear hK K))|(refine zAb fun K hK=>?_)|(refine zAa hE rfl ?_; simp +contextual only [hnl,↓kA,push_cast,seval,reduceCtorEq,cI])|refine zAc ?_|fail)
 refine zAk (fun k:Nat=>AS.of [(0,.one (.val (.sl .int) l)),(1,.one (.fnv [.int] .bool q p)),(6,.one (.val (.sl .int) l)),(7,.I l.length),(8,.I k)] [] []) (fun k=>k<=l.length/\findI (fun y=>p (y,())) l=(if findI (fun y=>p (y,())) (l.drop k)<0 then -1 else findI (fun y=>p (y,())) (l.drop k)+k)) (fun k=>l.length - k) 0 ⟨aq _,?_⟩ ?_ ?_
 ·simp only [ar]
  split
  ·exact zQ3 _ l (by assumption)
  ·simp
 ·refine zAf ?_ ?_ ?_<;>simp only [push_cast,seval,reduceCtorEq,cI]
 intro k ⟨hk,hf⟩ K' hL
 repeat' (first|(refine goK (by assumption) ?_; iterate 4 (try clear hK K))|(refine zAb fun K hK=>?_)|((first|refine zAa hE rfl ?_|refine zAi ?_); simp +contextual only [hnl,↓kA,push_cast,seval,reduceCtorEq,cI])|refine zAc ?_|((first|refine zAg ?_|refine zAj ?_); simp only [thenQ,zAh,if_true,if_false,Nat.reduceEqDiff,reduceCtorEq])|(refine zAe (by rfl) (fun hb=>?_) (fun hb=>?_)<;>(try simp only [bq,reduceCtorEq] at hb)<;>(try omega))|refine andS ?_|fail)
 ·rw [zKE 0 (by omega)] at hf
  refine ⟨hpre _,?_⟩
  repeat' (first|(refine goK (by assumption) ?_; iterate 4 (try clear hK K))|(refine zAb fun K hK=>?_)|((first|refine zAa hE rfl ?_|refine zAi ?_); simp +contextual only [hnl,↓kA,push_cast,seval,reduceCtorEq,cI])|(refine zAg ?_; simp only [thenQ,zAh,if_true,if_false,Nat.reduceEqDiff,reduceCtorEq])|(refine zAe (by rfl) (fun hb=>?_) (fun hb=>?_)<;>(try simp only [bq,reduceCtorEq] at hb)<;>(try omega))|refine andS ?_|fail)
  ·rw [hf]
   simp only [findI,hb,if_true]
   simp
  ·refine hL _ (k+1) ⟨by omega,?_⟩ (by omega) ?_
   ·rw [hf]
    simp only [findI,hb]
    have:=zG6 (fun y=>p (y,())) (l.drop (k+1))
    simp
    split<;>split<;>omega
   refine zAf ?_ ?_ ?_<;>simp only [push_cast,seval,reduceCtorEq,cI]
 ·obtain rfl:k=l.length:=by omega
  rw [hf]
  simp [findI]
theorem zCk:FnSpec Tryz.prog 133 zCv:=by
 refine FnSpec.of_tri' (E:=know _ [] [] []) (zAl (kc zPa all_nil) all_nil all_nil) Tryz.func133 rfl rfl kr ?_
 intro C x hE hnl hfit hpre
 simp only [Tryz.ntmps133,Tryz.results133,maxLen,seval,push_cast] at hnl hfit hpre ⊢
 obtain ⟨(l:List Int),⟨q,p⟩,_⟩:=x
 dsimp only at hfit hpre ⊢
 repeat' (first|(refine goK (by assumption) ?_; iterate 4 (try clear hK K))|(refine zAb fun K hK=>?_)|((first|refine zAa hE rfl ?_|refine zAi ?_); simp +contextual only [hnl,↓kA,push_cast,seval,reduceCtorEq,cI])|refine andS ?_|fail)
 have:=zKK (fun y=>p (y,())) l
 by_cases h:0<=findI (fun y=>p (y,())) l
 ·rw [aD h,this.1 h]
 ·rw [aF h]
  symm
  rw [bU]
  exact fun h2=>h (this.2 h2)
end Go.Proofs.YtekfodeknpnkbaaGreatDoor
namespace Go.Proofs.YtekfodeknpnkbaaGreatDoor
open Go.RowKit Go.VS
def zBL (l:List Int):Bool:=decide (1<=l.length/\l.length<=5) && l.all fun x=>decide (0<=x/\x<=30)
def zAq (l:List Int):Int:=if zBL l then 0 else 1
theorem zDL (m:Int) (hm:0<=m):∀ (l:List Int),(∀ x∈l,0<=x/\x<=m)->0<=lsum l/\lsum l<=m*l.length
 | [],_=>by simp [lsum]
 | x::l,h=>by
  have h1:=zDL m hm l (fun y hy=>h y (by simp [hy]))
  have h2:=h x (by simp)
  simp only [lsum,ao,Int.natCast_add,Int.natCast_one,c6,Int.mul_one]
  omega
theorem zI3 {l:List Int} (h:zBL l=true):1<=l.length/\l.length<=5:=by
 simp only [zBL,av,au] at h
 exact h.1
theorem zGn {l:List Int} (h:zBL l=true):∀ x∈l,0<=x/\x<=30:=by
 simp only [zBL,av,ay,au] at h
 exact h.2
theorem zI4 {l:List Int} (h:zBL l=true) (k:Nat):InR (lsum (l.take k)):=by
 have h1:=zDL 30 (by omega) (l.take k) (fun x hx=>zGn h x (bV hx))
 have h2:=zI3 h
 have h3:(l.take k).length<=5:=by rw [aU]; omega
 unfold InR
 omega
theorem zEN {l:List Int} (h:zAq l=0):zBL l=true:=by
 unfold zAq at h
 split at h
 ·assumption
 ·simp at h
theorem zIG {l:List Int} (h:¬zAq l=0):zBL l=false:=by
 unfold zAq at h
 split at h
 ·simp at h
 ·rename_i h2; simpa using h2
@[push_cast] def zOC:Con:=⟨[.dat (.sl .int)],fun _=>True,fun (x:List Int×Unit)=>{res:=[.val .int (zAq x.1)]}⟩
theorem zFj {l:List Int} (h:(l.length:Int)<1\/5<(l.length:Int)):zAq l=1:=by
 have:zBL l=false:=by
  simp only [zBL,Bool.and_eq_false_iff,cB]
  left; omega
 simp [zAq,this]
theorem zHw {l:List Int} (h:(l.any fun y=>decide (y<0) || decide (30<y))=true):zAq l=1:=by
 have:zBL l=false:=by
  rw [bU]
  intro hk
  simp only [cg,bO,au] at h
  obtain ⟨x,h1,h2⟩:=h
  have:=zGn hk x h1
  omega
 simp [zAq,this]
theorem zMt {l:List Int} {x:Int} (h1:x∈l) (h2:¬(0<=x/\x<=30)):zAq l=1 :=
 zHw (by simp only [cg,bO,au]; exact ⟨x,h1,by omega⟩)
theorem zHv {l:List Int} (h1:¬(l.length:Int)<1) (h2:¬5<(l.length:Int)) (h:∀ x∈l,0<=x/\x<=30):zAq l=0:=by
 have:zBL l=true:=by
  simp only [zBL,av,au,ay]
  exact ⟨by omega,h⟩
 simp [zAq,this]
theorem zJm:FnSpec Tryz.prog 116 zOC:=by
 refine FnSpec.of_tri' (E:=know [(133,zCv)] [(164,(zOd 30))] [] []) (zAl (all_cons zCk all_nil) (all_cons zNn all_nil) all_nil) Tryz.func116 rfl rfl kr ?_
 intro C x hE hnl hfit hpre
 simp only [Tryz.ntmps116,Tryz.results116,maxLen,seval,push_cast] at hnl hfit hpre ⊢
 obtain ⟨(l:List Int),_⟩:=x
 dsimp only at hfit hpre ⊢
 repeat' (first|(refine goK (by assumption) ?_; iterate 4 (try clear hK K))|(refine zAb fun K hK=>?_)|((first|refine zAa hE rfl ?_|refine zAi ?_); simp +contextual only [hnl,↓kA,push_cast,seval,reduceCtorEq,cI])|(refine zAg ?_; simp only [thenQ,zAh,if_true,if_false,Nat.reduceEqDiff,reduceCtorEq])|(refine zAe (by rfl) (fun hb=>?_) (fun hb=>?_)<;>(try simp only [bq,reduceCtorEq] at hb)<;>(try omega))|(refine ⟨fun hc=>?_,fun hc=>?_⟩)|fail)
 ·exact (zHw hb).symm
 ·refine (zHv (by assumption) (by assumption) fun x hx=>?_).symm
  rw [cR] at hb
  have h3:¬((x:Int)<0\/(30:Int)<x):=by simpa using hb x hx
  omega
 ·exact (zFj (.inr (by assumption))).symm
 ·exact (zFj (.inl (by assumption))).symm
theorem zD9:FnSpec Tryz.prog 129 zOz:=by
 refine FnSpec.of_tri' (E:=know [] [] [] []) (zAl all_nil all_nil all_nil) Tryz.func129 rfl rfl kr ?_
 intro C x hE hnl hfit hpre
 simp only [Tryz.ntmps129,Tryz.results129,maxLen,seval,push_cast] at hnl hfit hpre ⊢
 obtain ⟨(l:List Int),_⟩:=x
 dsimp only at hfit hpre ⊢
 repeat' (first|(refine goK (by assumption) ?_; iterate 4 (try clear hK K))|(refine zAb fun K hK=>?_)|(refine zAa hE rfl ?_; simp +contextual only [hnl,↓kA,push_cast,seval,reduceCtorEq,cI])|refine zAc ?_|fail)
 refine zAk (fun k:Nat=>AS.of [(0,.one (.val (.sl .int) l)),(3,.I (lsum (l.take k))),(4,.I k)] [] []) (fun k=>k<=l.length) (fun k=>l.length - k) 0 (aq _) ?_ ?_
 ·refine zAf ?_ ?_ ?_<;>simp only [push_cast,seval,reduceCtorEq,cI]
  simp [lsum]
 intro k hk K' hL
 repeat' (first|(refine goK (by assumption) ?_; iterate 4 (try clear hK K))|(refine zAb fun K hK=>?_)|((first|refine zAa hE rfl ?_|refine zAi ?_); simp +contextual only [hnl,↓kA,push_cast,seval,reduceCtorEq,cI])|refine zAc ?_|((first|refine zAg ?_|refine zAj ?_); simp only [thenQ,zAh,if_true,if_false,Nat.reduceEqDiff,reduceCtorEq])|(refine zAe (by rfl) (fun hb=>?_) (fun hb=>?_)<;>(try simp only [bq,reduceCtorEq] at hb)<;>(try omega))|refine andS ?_|fail)
 ·refine ⟨by rw [<-zBR l k (by omega)]; exact hpre _,?_⟩
  repeat' (first|(refine goK (by assumption) ?_; iterate 4 (try clear hK K))|(refine zAa hE rfl ?_; simp +contextual only [hnl,↓kA,push_cast,seval,reduceCtorEq,cI])|refine andS ?_|fail)
  refine hL _ (k+1) (by omega) (by omega) ?_
  refine zAf ?_ ?_ ?_<;>simp only [push_cast,seval,reduceCtorEq,cI]
  exact (zBR l k (by omega)).symm
 ·obtain rfl:k=l.length:=by omega
  simp
theorem zA0 {α:Type} {l:List α} {k:Nat} (d:α) (h:k<l.length):l.getD k d∈l:=by
 rw [ab,aj h]
 exact List.getElem_mem h
theorem zH5:FnSpec Tryz.prog 123 zOC:=by
 refine FnSpec.of_tri' (E:=know _ [] [] []) (zAl (kc zIg all_nil) all_nil all_nil) Tryz.func123 rfl rfl kr ?_
 intro C x hE hnl hfit hpre
 simp only [Tryz.ntmps123,Tryz.results123,maxLen,seval,push_cast] at hnl hfit hpre ⊢
 obtain ⟨(l:List Int),_⟩:=x
 dsimp only at hfit hpre ⊢
 repeat' (first|(refine goK (by assumption) ?_; iterate 4 (try clear hK K))|(refine zAb fun K hK=>?_)|((first|refine zAa hE rfl ?_|refine zAi ?_); simp +contextual only [hnl,↓kA,push_cast,seval,reduceCtorEq,cI])|refine zAc ?_|(refine zAg ?_; simp only [thenQ,zAh,if_true,if_false,Nat.reduceEqDiff,reduceCtorEq])|(refine zAe (by rfl) (fun hb=>?_) (fun hb=>?_)<;>(try simp only [bq,reduceCtorEq] at hb)<;>(try omega))|fail)
 ·exact (zFj (by omega)).symm
 have hlen:=hb; clear hb
 refine zAk (fun k:Nat=>AS.of [(0,.one (.val (.sl .int) l)),(3,.I k)] [] []) (fun k=>k<=l.length/\∀ j,j<k->0<=l.getD j 0/\l.getD j 0<=30) (fun k=>l.length - k) 0 ⟨aq _,by omega⟩ ?_ ?_
 ·refine zAf ?_ ?_ ?_<;>simp only [push_cast,seval,reduceCtorEq,cI]
 intro k ⟨hk,hj⟩ K' hL
 repeat' (first|(refine goK (by assumption) ?_; iterate 4 (try clear hK K))|(refine zAb fun K hK=>?_)|((first|refine zAa hE rfl ?_|refine zAi ?_); simp +contextual only [hnl,↓kA,push_cast,seval,reduceCtorEq,cI])|refine zAc ?_|((first|refine zAg ?_|refine zAj ?_); simp only [thenQ,zAh,if_true,if_false,Nat.reduceEqDiff,reduceCtorEq])|(refine zAe (by rfl) (fun hb=>?_) (fun hb=>?_)<;>(try simp only [bq,reduceCtorEq] at hb)<;>(try omega))|refine andS ?_|fail)
 ·exact (zMt (zA0 0 (by omega)) hb).symm
 ·refine hL _ (k+1) ⟨by omega,fun j hj'=>?_⟩ (by omega) ?_
  ·rcases ai j k with h3|h3
   ·exact hj j h3
   ·have:j=k:=by omega
    subst this
    exact hb
  refine zAf ?_ ?_ ?_<;>simp only [push_cast,seval,reduceCtorEq,cI]
 ·refine (zHv (by omega) (by omega) fun x hx=>?_).symm
  obtain ⟨j,h1,rfl⟩:=aN hx
  have:=hj j (by omega)
  rw [ab,aj h1] at this
  exact this
end Go.Proofs.YtekfodeknpnkbaaGreatDoor
namespace Go.Proofs.YtekfodeknpnkbaaGreatDoor
open Go.RowKit Go.VS
@[push_cast] def zWj:Con:=⟨[.dat (.sl .int),.dat (.sl .int)],fun _=>True,fun (x:List Int×List Int×Unit)=>{res:=[.val .bool (decide (x.1=x.2.1))]}⟩
theorem zIE {α:Type} (d:α) {a b:List α} (hl:a.length=b.length) (h:∀ j,j<a.length->a.getD j d=b.getD j d):a=b:=by
 apply List.ext_getElem hl
 intro j h1 h2
 have:=h j h1
 simpa [ab,h1,h2] using this
theorem zIY {α:Type} (d:α) {a b:List α} {k:Nat} (h:¬a.getD k d=b.getD k d):¬a=b:=fun e=>h (by rw [e])
theorem zPC:FnSpec Tryz.prog 48 zWj:=by
 refine FnSpec.of_tri' (E:=know [] [] [] []) (zAl all_nil all_nil all_nil) Tryz.func48 rfl rfl kr ?_
 intro C x hE hnl hfit hpre
 simp only [Tryz.ntmps48,Tryz.results48,maxLen,seval,push_cast] at hnl hfit hpre ⊢
 obtain ⟨(a:List Int),(b:List Int),_⟩:=x
 dsimp only at hfit hpre ⊢
 repeat' (first|(refine goK (by assumption) ?_; iterate 4 (try clear hK K))|(refine zAb fun K hK=>?_)|((first|refine zAa hE rfl ?_|refine zAi ?_); simp +contextual only [hnl,↓kA,push_cast,seval,reduceCtorEq,cI])|refine zAc ?_|(refine zAg ?_; simp only [thenQ,zAh,if_true,if_false,Nat.reduceEqDiff,reduceCtorEq])|(refine zAe (by rfl) (fun hb=>?_) (fun hb=>?_)<;>(try simp only [bq,reduceCtorEq] at hb)<;>(try omega))|fail)
 ·exact (aF fun e=>hb (by rw [e])).symm
 have hlen:=hb; clear hb
 refine zAk (fun k:Nat=>AS.of [(0,.one (.val (.sl .int) a)),(1,.one (.val (.sl .int) b)),(5,.I k)] [] []) (fun k=>k<=a.length/\∀ j,j<k->a.getD j 0=b.getD j 0) (fun k=>a.length - k) 0 ⟨aq _,by omega⟩ ?_ ?_
 ·refine zAf ?_ ?_ ?_<;>simp only [push_cast,seval,reduceCtorEq,cI]
 intro k ⟨hk,hj⟩ K' hL
 repeat' (first|(refine goK (by assumption) ?_; iterate 4 (try clear hK K))|(refine zAb fun K hK=>?_)|((first|refine zAa hE rfl ?_|refine zAi ?_|((first|refine zAd hE 1 rfl rfl kr ?_|refine zAd hE 2 rfl rfl kr ?_|refine zAd hE 3 rfl rfl kr ?_|refine zAd hE 4 rfl rfl kr ?_); simp only [ao,List.length_nil,Nat.reduceAdd,Nat.reduceSub,ak,List.take_zero,al,ar])); simp +contextual only [hnl,↓kA,push_cast,seval,reduceCtorEq,cI])|refine zAc ?_|((first|refine zAg ?_|refine zAj ?_); simp only [thenQ,zAh,if_true,if_false,Nat.reduceEqDiff,reduceCtorEq])|(refine zAe (by rfl) (fun hb=>?_) (fun hb=>?_)<;>(try simp only [bq,reduceCtorEq] at hb)<;>(try omega))|refine andS ?_|fail)
 ·exact (aF (zIY 0 hb)).symm
 ·refine hL _ (k+1) ⟨by omega,fun j hj'=>?_⟩ (by omega) ?_
  ·rcases ai j k with h3|h3
   ·exact hj j h3
   ·have:j=k:=by omega
    subst this
    exact hb
  refine zAf ?_ ?_ ?_<;>simp only [push_cast,seval,reduceCtorEq,cI]
 ·exact (aD (zIE 0 (by omega) fun j hj'=>hj j (by omega))).symm
end Go.Proofs.YtekfodeknpnkbaaGreatDoor
namespace Go.Proofs.YtekfodeknpnkbaaGreatDoor
open Go.RowKit Go.VS
def wid (p:List (List Int)):Nat:=(p.getD 0 []).length
def okRow (m:Nat) (r:List Int):Bool:=decide (r.length=m) && r.all fun x=>decide (0<=x/\x<=150)
def zRZ (p:List (List Int)):Bool:=decide (1<=p.length/\p.length<=5) && (decide (1<=wid p/\wid p<=5) && p.all (okRow (wid p)))
def zAR (p:List (List Int)):Int:=if zRZ p then 0 else 1
structure InPlan (p:List (List Int)):Prop where
 rows:1<=p.length/\p.length<=5
 cols:1<=wid p/\wid p<=5
 len:∀ r∈p,r.length=wid p
 mem:∀ r∈p,∀ x∈r,0<=x/\x<=150
theorem zGo {p:List (List Int)}:zRZ p=true↔InPlan p:=by
 simp only [zRZ,okRow,av,au,ay]
 constructor
 ·rintro ⟨h1,h2,h3⟩
  exact ⟨h1,h2,fun r hr=>(h3 r hr).1,fun r hr=>(h3 r hr).2⟩
 ·rintro ⟨h1,h2,h3,h4⟩
  exact ⟨h1,h2,fun r hr=>⟨h3 r hr,h4 r hr⟩⟩
theorem zHx {p:List (List Int)} (h:InPlan p):zAR p=0:=by
 unfold zAR
 rw [ah (zGo.2 h)]
theorem zCJ {p:List (List Int)} (h:¬InPlan p):zAR p=1:=by
 unfold zAR
 rw [ae (fun e=>h (zGo.1 e))]
theorem zDI {p:List (List Int)} (h:zAR p=0):InPlan p:=by
 unfold zAR at h
 split at h
 ·exact zGo.1 (by assumption)
 ·simp at h
theorem zEO (p:List (List Int)):zAR p=0\/zAR p=1:=by
 unfold zAR
 split<;>simp
theorem InPlan.row {p:List (List Int)} (h:InPlan p) {i:Nat} (hi:i<p.length):(p.getD i []).length=wid p:=h.len _ (zA0 [] hi)
theorem InPlan.at {p:List (List Int)} (h:InPlan p) {i j:Nat} (hi:i<p.length) (hj:j<wid p):0<=(p.getD i []).getD j 0/\(p.getD i []).getD j 0<=150 :=
 h.mem _ (zA0 [] hi) _ (zA0 0 (by rw [h.row hi]; exact hj))
theorem zHA {p:List (List Int)} (h1:1<=p.length/\p.length<=5) (h2:1<=wid p/\wid p<=5) (h:∀ i,i<p.length->(p.getD i []).length=wid p/\∀ j,j<wid p->0<=(p.getD i []).getD j 0/\(p.getD i []).getD j 0<=150):InPlan p:=by
 refine ⟨h1,h2,fun r hr=>?_,fun r hr x hx=>?_⟩
 ·obtain ⟨i,hi,rfl⟩:=aN hr
  have:=(h i hi).1
  rwa [ab,aj hi] at this
 ·obtain ⟨i,hi,rfl⟩:=aN hr
  obtain ⟨j,hj,rfl⟩:=aN hx
  have e:p.getD i []=p[i]:=by rw [ab,aj hi]; rfl
  have:=h i hi
  rw [e] at this
  have h3:=this.2 j (by rw [<-this.1]; exact hj)
  rwa [ab,aj hj] at h3
@[push_cast] def zSd:Con:=⟨[.dat (.sl (.sl .int))],fun _=>True,fun (x:List (List Int)×Unit)=>{res:=[.val .int (zAR x.1)]}⟩
theorem zFx {α:Type} (d:α) (f:α->Bool) {l:List α} {k:Nat} (h:k<l.length):(l.take (k+1)).any f=((l.take k).any f || f (l.getD k d)):=by
 rw [List.take_add_one,List.any_append]
 simp [ab,h]
theorem zHT:FnSpec Tryz.prog 89 zSd:=by
 refine FnSpec.of_tri' (E:=know [(133,zCv)] [(135,(zOd 150))] [] []) (zAl (all_cons zCk all_nil) (all_cons zLM all_nil) all_nil) Tryz.func89 rfl rfl kr ?_
 intro C x hE hnl hfit hpre
 simp only [Tryz.ntmps89,Tryz.results89,maxLen,seval,push_cast] at hnl hfit hpre ⊢
 obtain ⟨(p:List (List Int)),_⟩:=x
 dsimp only at hfit hpre ⊢
 repeat' (first|(refine goK (by assumption) ?_; iterate 4 (try clear hK K))|(refine zAb fun K hK=>?_)|((first|refine zAa hE rfl ?_|refine zAi ?_); simp +contextual only [hnl,↓kA,push_cast,seval,reduceCtorEq,cI])|refine zAc ?_|(refine zAg ?_; simp only [thenQ,zAh,if_true,if_false,Nat.reduceEqDiff,reduceCtorEq])|(refine zAe (by rfl) (fun hb=>?_) (fun hb=>?_)<;>(try simp only [bq,reduceCtorEq] at hb)<;>(try omega))|(refine ⟨fun hc=>?_,fun hc=>?_⟩)|fail)
 ·exact (zCJ fun h=>by have:=h.rows; omega).symm
 ·refine zAk (fun k:Nat=>AS.of [(0,.one (.val (.sl (.sl .int)) p)),(13,.one (.val (.sl (.sl .int)) p)),(14,.I p.length),(15,.I k)] [] []) (fun k=>k<=p.length/\∀ j,j<k->(1<=(p.getD j []).length/\(p.getD j []).length<=5)/\(p.getD j []).length=wid p/\∀ x∈p.getD j [],0<=x/\x<=150) (fun k=>p.length - k) 0 ⟨aq _,by omega⟩ ?_ ?_
  ·refine zAf ?_ ?_ ?_<;>simp only [push_cast,seval,reduceCtorEq,cI]
  intro k ⟨hk,hj⟩ K' hL
  have bad:∀ r∈p,¬(r.length=wid p/\∀ x∈r,0<=x/\x<=150)->zAR p=1:=fun r hr hn=>zCJ fun h=>hn ⟨h.len r hr,h.mem r hr⟩
  have hmem:k<p.length->p.getD k []∈p:=zA0 []
  repeat' (first|(refine goK (by assumption) ?_; iterate 4 (try clear hK K))|(refine zAb fun K hK=>?_)|((first|refine zAa hE rfl ?_|refine zAi ?_); simp +contextual only [hnl,↓kA,push_cast,seval,reduceCtorEq,cI])|refine zAc ?_|((first|refine zAg ?_|refine zAj ?_); simp only [thenQ,zAh,if_true,if_false,Nat.reduceEqDiff,reduceCtorEq])|(refine zAe (by rfl) (fun hb=>?_) (fun hb=>?_)<;>(try simp only [bq,reduceCtorEq] at hb)<;>(try omega))|refine andS ?_|(refine ⟨fun hc=>?_,fun hc=>?_⟩)|fail)
  ·refine (bad _ (hmem (by omega)) fun hn=>?_).symm
   rw [cg] at hb
   obtain ⟨x,h1,h2⟩:=hb
   have h3:=hn.2 x h1
   simp only [bO,au] at h2
   omega
  ·refine hL _ (k+1) ⟨by omega,fun j hj'=>?_⟩ (by omega) ?_
   ·rcases ai j k with h3|h3
    ·exact hj j h3
    ·obtain rfl:j=k:=by omega
     refine ⟨by omega,by unfold wid; omega,fun x hx=>?_⟩
     rw [cR] at hb
     have:=hb x hx
     simp only [bO,au] at this
     omega
   refine zAf ?_ ?_ ?_<;>simp only [push_cast,seval,reduceCtorEq,cI]
  ·exact (bad _ (hmem (by omega)) fun hn=>by have:=hn.1; unfold wid at this; omega).symm
  ·exact (zCJ fun h=>by have h1:=h.len _ (hmem (by omega)); have h2:=h.cols; omega).symm
  ·exact (zCJ fun h=>by have h1:=h.len _ (hmem (by omega)); have h2:=h.cols; omega).symm
  ·refine (zHx (zHA (by omega) ?_ fun i hi=>?_)).symm
   ·have h1:=hj 0 (by omega)
    unfold wid
    omega
   ·have h1:=hj i (by omega)
    exact ⟨h1.2.1,fun j hj'=>h1.2.2 _ (zA0 0 (by rw [h1.2.1]; exact hj'))⟩
 ·exact (zCJ fun h=>by have:=h.rows; omega).symm
theorem zPI:FnSpec Tryz.prog 124 zSd:=by
 refine FnSpec.of_tri' (E:=know _ [] [] []) (zAl (kc zIg all_nil) all_nil all_nil) Tryz.func124 rfl rfl kr ?_
 intro C x hE hnl hfit hpre
 simp only [Tryz.ntmps124,Tryz.results124,maxLen,seval,push_cast] at hnl hfit hpre ⊢
 obtain ⟨(p:List (List Int)),_⟩:=x
 dsimp only at hfit hpre ⊢
 have bad:∀ i j,i<p.length->¬((p.getD i []).length=wid p/\(j<(p.getD i []).length->0<=(p.getD i []).getD j 0/\(p.getD i []).getD j 0<=150))->zAR p=1:=fun i j hi hn=>zCJ fun h=>hn ⟨h.row hi,fun hj=>h.at hi (by rw [<-h.row hi]; exact hj)⟩
 repeat' (first|(refine goK (by assumption) ?_; iterate 4 (try clear hK K))|(refine zAb fun K hK=>?_)|((first|refine zAa hE rfl ?_|refine zAi ?_); simp +contextual only [hnl,↓kA,push_cast,seval,reduceCtorEq,cI])|refine zAc ?_|(refine zAg ?_; simp only [thenQ,zAh,if_true,if_false,Nat.reduceEqDiff,reduceCtorEq])|(refine zAe (by rfl) (fun hb=>?_) (fun hb=>?_)<;>(try simp only [bq,reduceCtorEq] at hb)<;>(try omega))|refine andS ?_|(refine ⟨fun hc=>?_,fun hc=>?_⟩)|fail)
 ·exact (zCJ fun h=>hb (by have:=h.cols; unfold wid at this; omega)).symm
 ·have hw:(p.getD 0 []).length=wid p:=rfl
  refine zAk (fun k:Nat=>AS.of [(0,.one (.val (.sl (.sl .int)) p)),(3,.I k)] [] []) (fun k=>k<=p.length/\∀ i,i<k->(p.getD i []).length=wid p/\∀ j,j<wid p->0<=(p.getD i []).getD j 0/\(p.getD i []).getD j 0<=150) (fun k=>p.length - k) 0 ⟨aq _,by omega⟩ ?_ ?_
  ·refine zAf ?_ ?_ ?_<;>simp only [push_cast,seval,reduceCtorEq,cI]
  intro k ⟨hk,hi⟩ K' hL
  repeat' (first|(refine goK (by assumption) ?_; iterate 4 (try clear hK K))|(refine zAb fun K hK=>?_)|((first|refine zAa hE rfl ?_|refine zAi ?_|((first|refine zAd hE 1 rfl rfl kr ?_|refine zAd hE 2 rfl rfl kr ?_|refine zAd hE 3 rfl rfl kr ?_|refine zAd hE 4 rfl rfl kr ?_); simp only [ao,List.length_nil,Nat.reduceAdd,Nat.reduceSub,ak,List.take_zero,al,ar])); simp +contextual only [hnl,↓kA,push_cast,seval,reduceCtorEq,cI])|refine zAc ?_|((first|refine zAg ?_|refine zAj ?_); simp only [thenQ,zAh,if_true,if_false,Nat.reduceEqDiff,reduceCtorEq])|(refine zAe (by rfl) (fun hb=>?_) (fun hb=>?_)<;>(try simp only [bq,reduceCtorEq] at hb)<;>(try omega))|refine andS ?_|fail)
  ·exact (bad k 0 (by omega) fun hn=>by have:=hn.1; unfold wid at this; omega).symm
  ·have hkw:(p.getD k []).length=wid p:=by unfold wid; omega
   refine zAk (fun j:Nat=>AS.of [(0,.one (.val (.sl (.sl .int)) p)),(3,.I k),(4,.I j)] [] []) (fun j=>j<=wid p/\∀ j',j'<j->0<=(p.getD k []).getD j' 0/\(p.getD k []).getD j' 0<=150) (fun j=>wid p - j) 0 ⟨aq _,by omega⟩ ?_ ?_
   ·refine zAf ?_ ?_ ?_<;>simp only [push_cast,seval,reduceCtorEq,cI]
   intro j ⟨hj,hj'⟩ K2 hL2
   repeat' (first|(refine goK (by assumption) ?_; iterate 4 (try clear hK K))|(refine zAb fun K hK=>?_)|((first|refine zAa hE rfl ?_|refine zAi ?_); simp +contextual only [hnl,↓kA,push_cast,seval,reduceCtorEq,cI])|refine zAc ?_|((first|refine zAg ?_|refine zAj ?_); simp only [thenQ,zAh,if_true,if_false,Nat.reduceEqDiff,reduceCtorEq])|(refine zAe (by rfl) (fun hb=>?_) (fun hb=>?_)<;>(try simp only [bq,reduceCtorEq] at hb)<;>(try omega))|refine andS ?_|fail)
   ·exact (bad k j (by omega) fun hn=>hb (hn.2 (by omega))).symm
   ·refine hL2 _ (j+1) ⟨by omega,fun j' h1=>?_⟩ (by omega) ?_
    ·rcases ai j' j with h3|h3
     ·exact hj' j' h3
     ·obtain rfl:j'=j:=by omega
      exact hb
    refine zAf ?_ ?_ ?_<;>simp only [push_cast,seval,reduceCtorEq,cI]
   ·refine hL _ (k+1) ⟨by omega,fun i h1=>?_⟩ (by omega) ?_
    ·rcases ai i k with h3|h3
     ·exact hi i h3
     ·obtain rfl:i=k:=by omega
      exact ⟨hkw,fun j' h4=>hj' j' (by omega)⟩
    refine zAf ?_ ?_ ?_<;>simp only [push_cast,seval,reduceCtorEq,cI]
  ·exact (zHx (zHA (by omega) (by omega) fun i h1=>hi i (by omega))).symm
 ·exact (zCJ fun h=>by have:=h.rows; omega).symm
end Go.Proofs.YtekfodeknpnkbaaGreatDoor
