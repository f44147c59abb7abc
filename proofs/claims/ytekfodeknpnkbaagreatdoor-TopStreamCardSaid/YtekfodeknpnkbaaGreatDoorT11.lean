import Derived.Test.YtekfodeknpnkbaaGreatDoorT4
set_option linter.unusedSimpArgs false
set_option linter.unusedVariables false
namespace Go.OT
open Go.BF
structure PS where
 r:List Int
 k:List Int
def prC (c:Int) (i j:Nat) (s:PS):PS:={s with k:=s.k.set j (min (s.k.getD j 0) (c - s.r.getD i 0))}
def prR (c n:Int) (i j:Nat) (s:PS):PS:=if 0<n then {s with r:=s.r.set i (max (s.r.getD i 0) (c - s.k.getD j 0))} else s
def pr2 (c p:List (List Int)) (i j:Nat) (s:PS):PS:=prR ((c.getD i []).getD j 0) ((p.getD i []).getD j 0) i j (prC ((c.getD i []).getD j 0) i j s)
def prRow (c p:List (List Int)) (i:Nat) (s:PS):PS:=upto (pr2 c p i) (c.getD i []).length s
def prAll (c p:List (List Int)) (s:PS):PS:=upto (prRow c p) c.length s
def prK (c p:List (List Int)) (R C k:Nat):PS:=upto (fun _=>prAll c p) k ⟨List.replicate R 0,List.replicate C 0⟩
structure PSt (R C:Nat) (m:Int) (s:PS) (g:St):Prop where
 l1:s.r.length=R
 l2:s.k.length=C
 b1:∀ i,i<R→0≤s.r.getD i 0∧s.r.getD i 0≤99*m
 b2:∀ j,j<C → -99*m≤s.k.getD j 0∧s.k.getD j 0≤0
 d1:∀ i,i<R→g.d i = - s.r.getD i 0
 d2:∀ j,j<C→g.d (R+j)=s.k.getD j 0
section
variable {R C:Nat} {m:Int} {s:PS} {g:St}
theorem PSt.mono {m':Int} (h:PSt R C m s g) (hm:m≤m'):PSt R C m' s g:=⟨h.l1,h.l2,fun i hi=>by have:=h.b1 i hi; omega,fun j hj=>by have:=h.b2 j hj; omega,h.d1,h.d2⟩
theorem PSt.prC (h:PSt R C m s g) {c:Int} {i j:Nat} (hi:i<R) (hj:j<C) (hc:0≤c∧c≤99):PSt R C (m+1) (prC c i j s) (rlx 1 g ⟨i,R+j,c⟩):=by
 have e1:=h.d1 i hi
 have e2:=h.d2 j hj
 have k1:=h.b1 i hi
 have k2:=h.b2 j hj
 have hk:∀ x,(Go.OT.prC c i j s).k.getD x 0=if x=j then min (s.k.getD j 0) (c - s.r.getD i 0) else s.k.getD x 0:=fun x=>zBw (by rw [h.l2]; exact hj) _ _
 have hr:∀ x,(Go.OT.prC c i j s).r.getD x 0=s.r.getD x 0:=fun x=>rfl
 have hd:∀ x,(rlx 1 g ⟨i,R+j,c⟩).d x=if x=R+j then min (g.d (R+j)) (g.d i+c) else g.d x:=fun x=>by
  unfold rlx
  dsimp only
  by_cases hlt:g.d i<1∧g.d i+c<g.d (R+j)
  ·rw [if_pos hlt]
   show (if x=R+j then _ else _)=_
   by_cases hx:x=R+j
   ·rw [if_pos hx,if_pos hx]; omega
   ·rw [if_neg hx,if_neg hx]
  ·rw [if_neg hlt]
   by_cases hx:x=R+j
   ·rw [if_pos hx,hx]; omega
   ·rw [if_neg hx]
 refine ⟨h.l1,by simp [Go.OT.prC,h.l2],fun x hx=>?_,fun x hx=>?_,fun x hx=>?_,fun x hx=>?_⟩
 ·rw [hr]; have:=h.b1 x hx; omega
 ·rw [hk]; have:=h.b2 x hx; split<;>omega
 ·rw [hd,hr,if_neg (by omega)]; exact h.d1 x hx
 ·rw [hd,hk]
  by_cases hxj:x=j
  ·subst hxj
   rw [if_pos rfl,if_pos rfl]; omega
  ·rw [if_neg (by omega),if_neg hxj]; exact h.d2 x hx
theorem PSt.prR (h:PSt R C m s g) {c:Int} {i j:Nat} (hi:i<R) (hj:j<C) (hc:0≤c∧c≤99) (n:Int):PSt R C (m+1) (prR c n i j s) (if 0<n then rlx 1 g ⟨R+j,i,- c⟩ else g):=by
 by_cases hn:0<n
 ·have e1:=h.d1 i hi
  have e2:=h.d2 j hj
  have k1:=h.b1 i hi
  have k2:=h.b2 j hj
  have ep:Go.OT.prR c n i j s={s with r:=s.r.set i (max (s.r.getD i 0) (c - s.k.getD j 0))}:=if_pos hn
  rw [ep,if_pos hn]
  have hr:∀ x,(s.r.set i (max (s.r.getD i 0) (c - s.k.getD j 0))).getD x 0=if x=i then max (s.r.getD i 0) (c - s.k.getD j 0) else s.r.getD x 0:=fun x=>zBw (by rw [h.l1]; exact hi) _ _
  have hd:∀ x,(rlx 1 g ⟨R+j,i,- c⟩).d x=if x=i then min (g.d i) (g.d (R+j) - c) else g.d x:=fun x=>by
   unfold rlx
   dsimp only
   by_cases hlt:g.d (R+j)<1∧g.d (R+j) + -c<g.d i
   ·rw [if_pos hlt]
    show (if x=i then _ else _)=_
    by_cases hx:x=i
    ·rw [if_pos hx,if_pos hx]; omega
    ·rw [if_neg hx,if_neg hx]
   ·rw [if_neg hlt]
    by_cases hx:x=i
    ·rw [if_pos hx,hx]; omega
    ·rw [if_neg hx]
  refine ⟨by simp [h.l1],h.l2,fun x hx=>?_,fun x hx=>?_,fun x hx=>?_,fun x hx=>?_⟩
  ·dsimp only
   rw [hr]; have:=h.b1 x hx; split<;>omega
  ·have:=h.b2 x hx; dsimp only; omega
  ·dsimp only
   rw [hd,hr]
   by_cases hxi:x=i
   ·subst hxi
    rw [if_pos rfl,if_pos rfl]; omega
   ·rw [if_neg hxi,if_neg hxi]; exact h.d1 x hx
  ·rw [hd,if_neg (by omega)]; exact h.d2 x hx
 ·have ep:Go.OT.prR c n i j s=s:=if_neg hn
  rw [ep,if_neg hn]
  exact h.mono (by omega)
variable {c p:List (List Int)}
theorem PSt.step (hc:Tb R C 0 99 c) (h:PSt R C m s g) {i j:Nat} (hi:i<R) (hj:j<C):PSt R C (m+2) (pr2 c p i j s) ((zFa R (gt c) (gt p) i j).foldl (rlx 1) g):=by
 have h1:=h.prC hi hj (hc.at' i j hi hj)
 have h2:=h1.prR hi hj (hc.at' i j hi hj) (gt p i j)
 unfold pr2 zFa
 rw [List.foldl_cons]
 have e:(if 0<gt p i j then [(⟨R+j,i,- gt c i j⟩:Ed)] else []).foldl (rlx 1) (rlx 1 g ⟨i,R+j,gt c i j⟩)=if 0<gt p i j then rlx 1 (rlx 1 g ⟨i,R+j,gt c i j⟩) ⟨R+j,i,- gt c i j⟩ else rlx 1 g ⟨i,R+j,gt c i j⟩:=by
  by_cases h0:0<gt p i j
  ·rw [if_pos h0,if_pos h0]; rfl
  ·rw [if_neg h0,if_neg h0]; rfl
 rw [e]
 exact h2.mono (by omega)
theorem PSt.row (hc:Tb R C 0 99 c) (h:PSt R C m s g) {i:Nat} (hi:i<R):∀ j,j≤C→PSt R C (m+2*j) (upto (pr2 c p i) j s) ((zCE R (gt c) (gt p) i j).foldl (rlx 1) g)
 | 0,_=>h.mono (by omega)
 | j+1,hj=>by
  have h1:=(PSt.row hc h hi j (by omega)).step (p:=p) hc hi (j:=j) (by omega)
  show PSt R C _ (pr2 c p i j (upto (pr2 c p i) j s)) ((zCE R (gt c) (gt p) i j++zFa R (gt c) (gt p) i j).foldl _ _)
  rw [List.foldl_append]
  exact h1.mono (by omega)
theorem PSt.tab (hc:Tb R C 0 99 c) (hC:C≤6) (h:PSt R C m s g):∀ i,i≤R→PSt R C (m+12*i) (upto (prRow c p) i s) ((zBy R C (gt c) (gt p) i).foldl (rlx 1) g)
 | 0,_=>h.mono (by omega)
 | i+1,hi=>by
  have h1:=(PSt.tab hc hC h i (by omega)).row (p:=p) hc (i:=i) (by omega) C (Nat.le_refl _)
  show PSt R C _ (upto (pr2 c p i) (c.getD i []).length (upto (prRow c p) i s)) ((zBy R C (gt c) (gt p) i++zCE R (gt c) (gt p) i C).foldl _ _)
  rw [List.foldl_append,hc.cols i (by omega)]
  exact h1.mono (by omega)
def st0:St:=⟨fun _=>0,fun _=>0⟩
theorem zP2 (hc:Tb R C 0 99 c) (hR:R≤6) (hC:C≤6):∀ k:Nat,PSt R C (72*(k:Int)) (prK c p R C k) (sweeps 1 (zBy R C (gt c) (gt p) R) k st0)
 | 0=>by
  have e:∀ n v,(List.replicate n (0:Int)).getD v 0=0:=fun n v=>by
   rw [List.getD_eq_getElem?_getD,List.getElem?_replicate]; split<;>rfl
  have e1:∀ v,(prK c p R C 0).r.getD v 0=0:=fun v=>e R v
  have e2:∀ v,(prK c p R C 0).k.getD v 0=0:=fun v=>e C v
  exact ⟨by simp [prK,upto],by simp [prK,upto],fun v _=>by rw [e1]; omega,fun v _=>by rw [e2]; omega,fun v _=>by rw [e1]; rfl,fun v _=>by rw [e2]; rfl⟩
 | k+1=>by
  have h1:=PSt.tab (p:=p) hc hC (zP2 hc hR hC k) R (Nat.le_refl _)
  show PSt R C _ (upto (prRow c p) c.length (prK c p R C k)) _
  rw [hc.rows]
  exact h1.mono (by omega)
theorem yAr (hc:Tb R C 0 99 c) (hR:R≤6) (hC:C≤6) {r t:Nat→Int} (h1:Holds R C (gt c) (fun i => - r i) t) (h2:Tight R C (gt c) (gt p) (fun i => - r i) t) (hr:∀ i,i<R→0≤r i∧r i≤99) (ht:∀ j,j<C→0≤t j∧t j≤99) :
 Holds R C (gt c) (fun i=>(prK c p R C (R+C)).r.getD i 0) (fun j=>(prK c p R C (R+C)).k.getD j 0)∧Tight R C (gt c) (gt p) (fun i=>(prK c p R C (R+C)).r.getD i 0) (fun j=>(prK c p R C (R+C)).k.getD j 0) ∧
 (∀ i,i<R→0≤(prK c p R C (R+C)).r.getD i 0∧(prK c p R C (R+C)).r.getD i 0≤99)∧(∀ j,j<C → -99≤(prK c p R C (R+C)).k.getD j 0∧(prK c p R C (R+C)).k.getD j 0≤0):=by
 have hs:=zP2 (p:=p) hc hR hC (R+C)
 let pot:Nat→Int:=fun v=>if v<R then r v - 99 else if v<R+C then t (v - R) - 99 else -99
 have potR:∀ i,i<R→pot i=r i - 99:=fun i hi=>if_pos hi
 have potC:∀ j,j<C→pot (R+j)=t j - 99:=fun j hj=>by
  show (if _ then _ else if _ then _ else _)=_
  rw [if_neg (by omega),if_pos (by omega),Nat.add_sub_cancel_left]
 have hpot:∀ e∈zBy R C (gt c) (gt p) R,pot e.v≤pot e.u+e.c:=fun e he=>by
  obtain ⟨i,j,hi,hj,h|⟨h0,h⟩⟩:=zBI.1 he
  ·subst h
   dsimp only
   rw [potR i hi,potC j hj]
   have:=h1 i j hi hj
   dsimp only at this
   omega
  ·subst h
   dsimp only
   rw [potR i hi,potC j hj]
   have:=h2 i j hi hj h0
   dsimp only at this
   omega
 have hN:∀ e∈zBy R C (gt c) (gt p) R,e.u<R+C∧e.v<R+C:=fun e he=>by
  obtain ⟨i,j,hi,hj,h|⟨h0,h⟩⟩:=zBI.1 he<;>subst h<;>dsimp only<;>omega
 have rest:=zI6 (F:=1) st0 hpot hN
 have low:=zHf (F:=1) (s:=st0) hpot (fun v=>by
  show (if v<R then r v - 99 else if v<R+C then t (v - R) - 99 else -99)≤0
  split
  ·rename_i h; have:=hr v h; omega
  ·split
   ·rename_i h h'; have:=ht (v - R) (by omega); omega
   ·omega) (R+C)
 generalize prK c p R C (R+C)=s at hs ⊢
 generalize sweeps 1 (zBy R C (gt c) (gt p) R) (R+C) st0=g at hs rest low
 refine ⟨fun i j hi hj=>?_,fun i j hi hj h0=>?_,fun i hi=>?_,fun j hj=>?_⟩
 ·have k1:=rest ⟨i,R+j,gt c i j⟩ (zBI.2 ⟨i,j,hi,hj,.inl rfl⟩)
  have k2:=hs.b1 i hi
  dsimp only at k1 ⊢
  rw [hs.d1 i hi,hs.d2 j hj] at k1
  have:=k1 (by omega)
  omega
 ·have k1:=rest ⟨i,R+j,gt c i j⟩ (zBI.2 ⟨i,j,hi,hj,.inl rfl⟩)
  have k3:=rest ⟨R+j,i,- gt c i j⟩ (zBI.2 ⟨i,j,hi,hj,.inr ⟨h0,rfl⟩⟩)
  have k2:=hs.b1 i hi
  have k4:=hs.b2 j hj
  dsimp only at k1 k3 ⊢
  rw [hs.d1 i hi,hs.d2 j hj] at k1 k3
  have:=k1 (by omega)
  have:=k3 (by omega)
  omega
 ·have k1:=low i
  have k2:=hs.b1 i hi
  have:=hr i hi
  rw [potR i hi,hs.d1 i hi] at k1
  omega
 ·have k1:=low (R+j)
  have k2:=hs.b2 j hj
  have:=ht j hj
  rw [potC j hj,hs.d2 j hj] at k1
  omega
end
end Go.OT
