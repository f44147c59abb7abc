import Derived.Test.YtekfodeknpnkbaaGreatDoorT18
import Derived.Test.YtekfodeknpnkbaaGreatDoorT20
set_option linter.unusedSimpArgs false
set_option linter.unusedVariables false
namespace Go.LC
open Go.OT
def zXP (C i:Nat) (s:Cn):Cn:=upto (zBv i) C s
def cornK (a b:List Int) (k:Nat):Cn:=upto (zXP b.length) k ⟨zDJ a b,a,b⟩
def cornV (a b:List Int):List (List Int):=(cornK a b a.length).out
theorem CnI.weak {a b:List Int} {dn dn':Nat→Nat→Prop} {s:Cn} (h:CnI a b dn s) (he:∀ i j,i<a.length→j<b.length→(dn i j↔dn' i j)):CnI a b dn' s :=
 ⟨h.tab,h.l1,h.l2,h.nn1,h.nn2,h.row,h.col,fun i j hi hj hd=>h.met i j hi hj ((he i j hi hj).2 hd),fun i j hi hj hd=>h.rest i j hi hj fun h2=>hd ((he i j hi hj).1 h2)⟩
theorem CnI.row' {a b:List Int} {s:Cn} {i:Nat} (hi:i<a.length) (h:CnI a b (fun i' _=>i'<i) s):∀ j,j≤b.length→CnI a b (fun i' j'=>i'<i∨i'=i∧j'<j) (upto (zBv i) j s)
 | 0,_=>h.weak fun i' j' _ _=>⟨.inl,fun h=>by rcases h with h|⟨_,h⟩; exact h; omega⟩
 | j+1,hj=>by
  have h1:=(CnI.row' hi h j (by omega)).step hi (j:=j) (by omega) (by omega)
  exact h1.weak fun i' j' _ _=>by omega
theorem zKX {a b:List Int} (ha:Bnd 0 200 a) (hb:Bnd 0 200 b):∀ k,k≤a.length→CnI a b (fun i _=>i<k) (cornK a b k)
 | 0,_=>by
  refine ⟨zMa a b (by omega) (by omega),rfl,rfl,fun i hi=>ha.at hi,fun j hj=>hb.at hj,fun i hi=>?_,fun j hj=>?_,fun i j _ _ h=>absurd h (Nat.not_lt_zero _),fun i j _ _ _=>?_⟩
  ·show rowS _ (gt (zDJ a b)) i+_=_
   rw [zC3,zJb]
   show 0+a.getD i 0=ga a i
   unfold ga; omega
  ·show colS _ (gt (zDJ a b)) j+_=_
   rw [zC3,zL0]
   show 0+b.getD j 0=ga b j
   unfold ga; omega
  ·show gt (zDJ a b) i j=0
   rw [zC3]
 | k+1,hk=>by
  have h1:=CnI.row' (i:=k) (by omega) (zKX ha hb k (by omega)) b.length (Nat.le_refl _)
  exact h1.weak fun i j _ hj=>by omega
theorem MQ.corner {a b:List Int} {c:List (List Int)} (h:MQ a b c):Pl a b (cornV a b):=by
 have h1:=zKX h.ha h.hb a.length (Nat.le_refl _)
 have hR:cornV a b=(cornK a b a.length).out:=rfl
 rw [hR]
 generalize cornK a b a.length=s at h1 ⊢
 have s1:sg a.length (rowS b.length (gt s.out))+sg a.length (fun i=>s.fr.getD i 0)=sumL a:=by
  rw [←zCO]; exact zAm _ fun i hi=>h1.row i hi
 have s2:sg b.length (colS a.length (gt s.out))+sg b.length (fun j=>s.to.getD j 0)=sumL b:=by
  rw [←zCO]; exact zAm _ fun j hj=>h1.col j hj
 have s3:sg a.length (rowS b.length (gt s.out))=sg b.length (colS a.length (gt s.out)):=zCJ _ _ _
 have s4:=h.hs
 have z1:∀ i,i<a.length→s.fr.getD i 0=0:=by
  apply Classical.byContradiction
  intro hn
  have hn2:∃ i,i<a.length∧s.fr.getD i 0≠0:=Classical.byContradiction fun hx=>hn fun i hi=>Classical.byContradiction fun h=>hx ⟨i,hi,h⟩
  obtain ⟨i,hi,hne⟩:=hn2
  have z2:∀ j,j<b.length→s.to.getD j 0=0:=fun j hj=>(h1.met i j hi hj hi).resolve_left hne
  have:sg b.length (fun j=>s.to.getD j 0)=0:=(zAm _ z2).trans (zDk _)
  have:=zLB a.length (fun i hi=>(h1.nn1 i hi).1) (by omega) i hi
  exact hne this
 have z2:∀ j,j<b.length→s.to.getD j 0=0:=fun j hj=>by
  have:sg a.length (fun i=>s.fr.getD i 0)=0:=(zAm _ z1).trans (zDk _)
  exact zLB b.length (fun i hi=>(h1.nn2 i hi).1) (by omega) j hj
 exact ⟨h1.tab,fun i j hi hj=>(h1.tab.at' i j hi hj).1,fun i hi=>by have:=h1.row i hi; rw [z1 i hi] at this; omega,fun j hj=>by have:=h1.col j hj; rw [z2 j hj] at this; omega⟩
section
variable {R C:Nat} {p:Nat→Nat→Int}
theorem zTN {e:Nat×Nat} {i j:Nat}:e∈eAt R p i j↔e=(i,R+j)∨0<p i j∧e=(R+j,i):=by
 unfold eAt
 by_cases h:0<p i j
 ·simp [h]
 ·simp [h]
theorem zPW {e:Nat×Nat} {i:Nat}:∀ (n:Nat),e∈eRow R p i n↔∃ j,j<n∧e∈eAt R p i j
 | 0=>by simp [eRow]
 | n+1=>by
  simp only [eRow,List.mem_append,zPW n]
  constructor
  ·rintro (⟨j,hj,h⟩|h)
   ·exact ⟨j,by omega,h⟩
   ·exact ⟨n,by omega,h⟩
  ·rintro ⟨j,hj,h⟩
   rcases Nat.lt_or_ge j n with h2|h2
   ·exact .inl ⟨j,h2,h⟩
   ·obtain rfl:j=n:=by omega
    exact .inr h
theorem zTO {e:Nat×Nat}:∀ (n:Nat),e∈eTo R C p n↔∃ i j,i<n∧j<C∧e∈eAt R p i j
 | 0=>by simp [eTo]
 | n+1=>by
  simp only [eTo,List.mem_append,zTO n,zPW]
  constructor
  ·rintro (⟨i,j,hi,hj,h⟩|⟨j,hj,h⟩)
   ·exact ⟨i,j,by omega,hj,h⟩
   ·exact ⟨n,j,by omega,hj,h⟩
  ·rintro ⟨i,j,hi,hj,h⟩
   rcases Nat.lt_or_ge i n with h2|h2
   ·exact .inl ⟨i,j,h2,hj,h⟩
   ·obtain rfl:i=n:=by omega
    exact .inr ⟨j,hj,h⟩
theorem mem_e {e:Nat×Nat}:e∈eTo R C p R↔∃ i j,i<R∧j<C∧(e=(i,R+j)∨0<p i j∧e=(R+j,i)):=by
 rw [zTO]
 constructor
 ·rintro ⟨i,j,hi,hj,h⟩; exact ⟨i,j,hi,hj,zTN.1 h⟩
 ·rintro ⟨i,j,hi,hj,h⟩; exact ⟨i,j,hi,hj,zTN.2 h⟩
theorem e_ne:∀ e∈eTo R C p R,e.1≠e.2:=fun e he=>by
 obtain ⟨i,j,hi,hj,rfl|⟨_,rfl⟩⟩:=mem_e.1 he<;>dsimp only<;>omega
theorem e_lt:∀ e∈eTo R C p R,e.1<R+C∧e.2<R+C:=fun e he=>by
 obtain ⟨i,j,hi,hj,rfl|⟨_,rfl⟩⟩:=mem_e.1 he<;>dsimp only<;>omega
variable {c q:List (List Int)}
theorem zGn (hc:Tb R C 0 1000000 c) (hR:1≤R∧R≤6) (hC:C≤6):∀ k:Nat,Sim (R+C) (72*(k:Int)) (lwK c q (R+C) k) (sws (cw R (gt c)) (eTo R C (gt q) R) LC.start k)
 | 0=>by
  have e:∀ v,(List.replicate (R+C) (0:Int)).getD v 0=0:=fun v=>by
   rw [List.getD_eq_getElem?_getD,List.getElem?_replicate]; split<;>rfl
  exact ⟨by simp [lwK,upto],by simp [lwK,upto],fun v _=>e v,fun v _=>e v,fun v _=>by show 0<R+C; omega,rfl,fun v _=>by have e2:(lwK c q (R+C) 0).far.getD v 0=0:=e v; omega⟩
 | k+1=>by
  have h1:=Sim.tab (q:=q) hc hC (zGn hc hR hC k).start (k+1) R (Nat.le_refl _)
  show Sim (R+C) _ (upto (lwRow c q) c.length {lwK c q (R+C) k with last := -1}) _
  rw [hc.rows]
  exact h1.mono (by omega)
end
end Go.LC
namespace Go.LC
open Go.OT
def zLI (R:Nat) (b:Nat→Nat) (l:Int) (at':Nat) (q:List (List Int)):List (List Int):=if at'<R then addAt q at' (b at' - R) (-l) else addAt q (b at') (at' - R) l
def turnK (R:Nat) (p:List (List Int)) (b:Nat→Nat) (x:Nat) (l:Int):Nat→List (List Int)
 | 0=>p
 | m+1=>zLI R b l (it b m x) (turnK R p b x l m)
def impV (c p:List (List Int)) (N:Nat):List (List Int):=turnK c.length p (byF (lwN c p N).by') (rx c p N) (rl c p N) (rp c p N)
section
variable {R C:Nat} {c p:Nat→Nat→Int} {b:Nat→Nat} {x n:Nat}
theorem zDF (h:Round (cw R c) (eTo R C p R) b x n) (m:Nat) :
 (∃ i j,i<R∧j<C∧it b m x=R+j∧it b (m+1) x=i)∨(∃ i j,i<R∧j<C∧0<p i j∧it b m x=i∧it b (m+1) x=R+j):=by
 obtain ⟨i,j,hi,hj,he|⟨h0,he⟩⟩:=mem_e.1 (h.edge m)
 ·simp only [Prod.mk.injEq] at he
  exact .inl ⟨i,j,hi,hj,he.2,he.1⟩
 ·simp only [Prod.mk.injEq] at he
  exact .inr ⟨i,j,hi,hj,h0,he.2,he.1⟩
theorem zX5 (h:Round (cw R c) (eTo R C p R) b x n):∃ m,m<n∧it b m x<R:=by
 rcases zDF h 0 with ⟨i,j,hi,hj,h1,h2⟩|⟨i,j,hi,hj,h0,h1,h2⟩
 ·have hn:1<n:=by
   have:=h.pos
   rcases Nat.lt_or_ge 1 n with h3|h3
   ·exact h3
   ·have:n=1:=by omega
    have h4:=h.back
    rw [this] at h4
    have h5:it b 0 x=x:=rfl
    have h6:it b 1 x=i:=h2
    omega
  exact ⟨1,hn,by rw [h2]; exact hi⟩
 ·exact ⟨0,h.pos,by rw [h1]; exact hi⟩
end
section
variable {R C:Nat} {c p:List (List Int)} {b:Nat→Nat} {x n:Nat}
theorem zGl (h:Round (cw R (gt c)) (eTo R C (gt p) R) b x n):∀ m,(zBd R p b x m = -1∧∀ k,k<m→¬it b k x<R) ∨
 (1≤zBd R p b x m∧(∀ k,k<m→it b k x<R→zBd R p b x m≤gt p (it b k x) (b (it b k x) - R))∧∃ k,k<m∧it b k x<R∧zBd R p b x m=gt p (it b k x) (b (it b k x) - R))
 | 0=>.inl ⟨rfl,fun k hk=>by omega⟩
 | m+1=>by
  have e:zBd R p b x (m+1)=if it b m x<R then (if zBd R p b x m<0∨gt p (it b m x) (b (it b m x) - R)<zBd R p b x m then gt p (it b m x) (b (it b m x) - R) else zBd R p b x m) else zBd R p b x m:=rfl
  rw [e]
  rcases zDF h m with ⟨i,j,hi,hj,h1,h2⟩|⟨i,j,hi,hj,h0,h1,h2⟩
  ·rw [if_neg (by omega)]
   rcases zGl h m with ⟨k1,k2⟩|⟨k1,k2,k3⟩
   ·refine .inl ⟨k1,fun k hk=>?_⟩
    rcases Nat.lt_or_ge k m with h3|h3
    ·exact k2 k h3
    ·obtain rfl:k=m:=by omega
     omega
   ·refine .inr ⟨k1,fun k hk hr=>?_,?_⟩
    ·rcases Nat.lt_or_ge k m with h3|h3
     ·exact k2 k h3 hr
     ·obtain rfl:k=m:=by omega
      omega
    ·obtain ⟨k,g1,g2,g3⟩:=k3
     exact ⟨k,by omega,g2,g3⟩
  ·have h3:b (it b m x) - R=j:=by
    have:b (it b m x)=R+j:=h2
    omega
   rw [if_pos (by omega),h3,h1]
   have hmm:∀ k,k<m+1→k=m∨k<m:=fun k hk=>by omega
   rcases zGl h m with ⟨k1,k2⟩|⟨k1,k2,k3⟩
   ·rw [k1,if_pos (.inl (by omega))]
    refine .inr ⟨by omega,fun k hk hr=>?_,m,by omega,by omega,by rw [h3,h1]⟩
    rcases hmm k hk with rfl|h4
    ·rw [h3,h1]; exact Int.le_refl _
    ·exact absurd hr (k2 k h4)
   ·by_cases hlt:gt p i j<zBd R p b x m
    ·rw [if_pos (.inr hlt)]
     refine .inr ⟨by omega,fun k hk hr=>?_,m,by omega,by omega,by rw [h3,h1]⟩
     rcases hmm k hk with rfl|h4
     ·rw [h3,h1]; exact Int.le_refl _
     ·have:=k2 k h4 hr; omega
    ·rw [if_neg (by omega)]
     refine .inr ⟨k1,fun k hk hr=>?_,?_⟩
     ·rcases hmm k hk with rfl|h4
      ·rw [h3,h1]; omega
      ·exact k2 k h4 hr
     ·obtain ⟨k,g1,g2,g3⟩:=k3
      exact ⟨k,by omega,g2,g3⟩
def ind (u v:Nat):Int:=if u=v then 1 else 0
structure Turned (R C:Nat) (c p:List (List Int)) (b:Nat→Nat) (x:Nat) (l:Int) (m:Nat) (q:List (List Int)):Prop where
 sz:Sz R C q
 row:∀ i,i<R→rowS C (gt q) i=rowS C (gt p) i+l*(ind (it b m x) i - ind x i)
 col:∀ j,j<C→colS R (gt q) j=colS R (gt p) j+l*(ind x (R+j) - ind (it b m x) (R+j))
 cost:cst R C (gt c) (gt q)=cst R C (gt c) (gt p)+l*sg m (fun k=>cw R (gt c) (it b (k+1) x) (it b k x))
 low:∀ i j,i<R→j<C→gt p i j - l≤gt q i j
 low2:∀ i j,i<R→j<C→(∀ k,k<m→it b k x=i→it b (k+1) x=R+j→False)→gt p i j≤gt q i j
 near:∀ i j,i<R→j<C→gt p i j - l*m≤gt q i j∧gt q i j≤gt p i j+l*m
theorem zUV (h:Round (cw R (gt c)) (eTo R C (gt p) R) b x n) (hsz:Sz R C p) {l:Int} (hl:0≤l):∀ m,m≤n→Turned R C c p b x l m (turnK R p b x l m)
 | 0,_=>by
  refine ⟨hsz,fun i _=>?_,fun j _=>?_,?_,fun i j _ _=>?_,fun i j _ _ _=>Int.le_refl _,fun i j _ _=>?_⟩
  ·show rowS C (gt p) i=rowS C (gt p) i+l*(ind x i - ind x i)
   rw [Int.sub_self,Int.mul_zero]; omega
  ·show colS R (gt p) j=colS R (gt p) j+l*(ind x (R+j) - ind x (R+j))
   rw [Int.sub_self,Int.mul_zero]; omega
  ·show cst R C (gt c) (gt p)=cst R C (gt c) (gt p)+l*0
   rw [Int.mul_zero]; omega
  ·show gt p i j - l≤gt p i j; omega
  ·show gt p i j - l*((0:Nat):Int)≤gt p i j∧gt p i j≤gt p i j+l*((0:Nat):Int)
   rw [Int.natCast_zero,Int.mul_zero]; omega
 | m+1,hm=>by
  obtain ⟨t1,t2,t3,t4,t5,t6,t7⟩:=zUV h hsz hl m (by omega)
  have e:turnK R p b x l (m+1)=zLI R b l (it b m x) (turnK R p b x l m):=rfl
  have hlm:l*((m+1:Nat):Int)=l*m+l:=by rw [Int.natCast_add,Int.mul_add]; omega
  rw [e]
  generalize turnK R p b x l m=q at t1 t2 t3 t4 t5 t6 t7 ⊢
  unfold zLI
  rcases zDF h m with ⟨i,j,hi,hj,h1,h2⟩|⟨i,j,hi,hj,h0,h1,h2⟩
  ·have hb:b (it b m x)=i:=h2
   rw [if_neg (by omega),hb,show it b m x - R=j by omega]
   have hg:=zDp (d:=l) t1 hi hj
   have hw:cw R (gt c) (it b (m+1) x) (it b m x)=gt c i j:=by
    unfold cw
    rw [h2,if_pos hi,h1,Nat.add_sub_cancel_left]
   refine ⟨t1.add hi,fun i' hi'=>?_,fun j' hj'=>?_,?_,fun i' j' hi' hj'=>?_,fun i' j' hi' hj' hno=>?_,fun i' j' hi' hj'=>?_⟩
   ·rw [hg,zEt _ hj,t2 i' hi',h1,h2]
    have z1:ind (R+j) i'=0:=if_neg (by omega)
    by_cases h3:i'=i
    ·have z2:ind i i'=1:=if_pos h3.symm
     rw [if_pos h3,z1,z2,Int.mul_sub,Int.mul_sub]; omega
    ·have z2:ind i i'=0:=if_neg (fun h=>h3 h.symm)
     rw [if_neg h3,z1,z2]; omega
   ·rw [hg,zEh _ hi,t3 j' hj',h1,h2]
    have z1:ind i (R+j')=0:=if_neg (by omega)
    by_cases h3:j'=j
    ·have z2:ind (R+j) (R+j')=1:=if_pos (by omega)
     rw [if_pos h3,z1,z2,Int.mul_sub,Int.mul_sub]; omega
    ·have z2:ind (R+j) (R+j')=0:=if_neg (by omega)
     rw [if_neg h3,z1,z2]; omega
   ·rw [hg,zGx _ _ hi hj,t4]
    simp only [sg]
    rw [hw,Int.mul_add,Int.mul_comm l (gt c i j)]; omega
   ·rw [hg]
    have:=t5 i' j' hi' hj'
    unfold bump
    split<;>omega
   ·rw [hg]
    have:=t6 i' j' hi' hj' fun k hk=>hno k (by omega)
    unfold bump
    split<;>omega
   ·rw [hg,hlm]
    have:=t7 i' j' hi' hj'
    unfold bump
    split<;>omega
  ·have hb:b (it b m x)=R+j:=h2
   rw [if_pos (by omega),hb,show R+j - R=j by omega,h1]
   have hg:=zDp (d := -l) t1 hi hj
   have hw:cw R (gt c) (it b (m+1) x) (it b m x) = - gt c i j:=by
    unfold cw
    rw [h2,if_neg (by omega),h1,Nat.add_sub_cancel_left]
   refine ⟨t1.add hi,fun i' hi'=>?_,fun j' hj'=>?_,?_,fun i' j' hi' hj'=>?_,fun i' j' hi' hj' hno=>?_,fun i' j' hi' hj'=>?_⟩
   ·rw [hg,zEt _ hj,t2 i' hi',h1,h2]
    have z1:ind (R+j) i'=0:=if_neg (by omega)
    by_cases h3:i'=i
    ·have z2:ind i i'=1:=if_pos h3.symm
     rw [if_pos h3,z1,z2,Int.mul_sub,Int.mul_sub]; omega
    ·have z2:ind i i'=0:=if_neg (fun h=>h3 h.symm)
     rw [if_neg h3,z1,z2]; omega
   ·rw [hg,zEh _ hi,t3 j' hj',h1,h2]
    have z1:ind i (R+j')=0:=if_neg (by omega)
    by_cases h3:j'=j
    ·have z2:ind (R+j) (R+j')=1:=if_pos (by omega)
     rw [if_pos h3,z1,z2,Int.mul_sub,Int.mul_sub]; omega
    ·have z2:ind (R+j) (R+j')=0:=if_neg (by omega)
     rw [if_neg h3,z1,z2]; omega
   ·rw [hg,zGx _ _ hi hj,t4]
    simp only [sg]
    rw [hw,Int.mul_add,Int.mul_neg,Int.mul_neg,Int.mul_comm l (gt c i j)]; omega
   ·rw [hg]
    unfold bump
    by_cases h3:i'=i∧j'=j
    ·obtain ⟨rfl,rfl⟩:=h3
     rw [if_pos ⟨rfl,rfl⟩]
     have:=t6 i' j' hi' hj' fun k hk e1 _=>h.inj hk (by omega) (by rw [e1,h1])
     omega
    ·rw [if_neg h3]
     have:=t5 i' j' hi' hj'
     omega
   ·rw [hg]
    have h4:=t6 i' j' hi' hj' fun k hk=>hno k (by omega)
    unfold bump
    rw [if_neg (fun h3=>hno m (by omega) (by rw [h1]; exact h3.1.symm) (by rw [h2,h3.2]))]
    omega
   ·rw [hg,hlm]
    have:=t7 i' j' hi' hj'
    unfold bump
    split<;>omega
end
theorem Pl.turn {a b:List Int} {c p:List (List Int)} (hp:Pl a b p) (hb:Bnd 0 200 b) {by':Nat→Nat} {x n:Nat} (h:Round (cw a.length (gt c)) (eTo a.length b.length (gt p) a.length) by' x n) :
 1≤zBd a.length p by' x n∧zBd a.length p by' x n≤200∧Pl a b (turnK a.length p by' x (zBd a.length p by' x n) n)∧cst a.length b.length (gt c) (gt (turnK a.length p by' x (zBd a.length p by' x n) n))<cst a.length b.length (gt c) (gt p):=by
 obtain ⟨m0,hm0,hr0⟩:=zX5 h
 rcases zGl h n with ⟨_,k2⟩|⟨k1,k2,k3⟩
 ·exact absurd hr0 (k2 m0 hm0)
 ·have h200:zBd a.length p by' x n≤200:=by
   obtain ⟨k,g1,g2,g3⟩:=k3
   rcases zDF h k with ⟨i,j,hi,hj,h1,h2⟩|⟨i,j,hi,hj,h0,h1,h2⟩
   ·omega
   ·have e1:by' (it by' k x) - a.length=j:=by
     have:by' (it by' k x)=a.length+j:=h2
     omega
    rw [g3,e1,h1]
    exact (hp.tab.at' i j hi hj).2
  generalize hl:zBd a.length p by' x n=l at k1 k2 k3 h200 ⊢
  obtain ⟨t1,t2,t3,t4,t5,t6,t7⟩:=zUV h hp.tab.sz (l:=l) (by omega) n (Nat.le_refl _)
  have hrow:∀ i,i<a.length→rowS b.length (gt (turnK a.length p by' x l n)) i=ga a i:=fun i hi=>by
   rw [t2 i hi,h.back,Int.sub_self,Int.mul_zero,hp.plan.row i hi]; omega
  have hcol:∀ j,j<b.length→colS a.length (gt (turnK a.length p by' x l n)) j=ga b j:=fun j hj=>by
   rw [t3 j hj,h.back,Int.sub_self,Int.mul_zero,hp.plan.col j hj]; omega
  have hnn:∀ i j,i<a.length→j<b.length→0≤gt (turnK a.length p by' x l n) i j:=fun i j hi hj=>by
   by_cases hu:∃ k,k<n∧it by' k x=i∧it by' (k+1) x=a.length+j
   ·obtain ⟨k,e1,e2,e3⟩:=hu
    have e4:=k2 k e1 (by omega)
    have e5:by' (it by' k x) - a.length=j:=by
     have:by' (it by' k x)=a.length+j:=e3
     omega
    rw [e5,e2] at e4
    have:=t5 i j hi hj
    omega
   ·have:=t6 i j hi hj fun k e1 e2 e3=>hu ⟨k,e1,e2,e3⟩
    have:=hp.plan.nn i j hi hj
    omega
  refine ⟨k1,h200,⟨⟨t1.rows,t1.cols,fun i j hi hj=>⟨hnn i j hi hj,?_⟩⟩,hnn,hrow,hcol⟩,?_⟩
  ·have h5:=sg_at a.length (f:=fun i=>gt (turnK a.length p by' x l n) i j) (fun i hi=>hnn i j hi hj) i hi
   have h6:sg a.length (fun i=>gt (turnK a.length p by' x l n) i j)=ga b j:=hcol j hj
   have h7:=(hb.at hj).2
   have h8:gt (turnK a.length p by' x l n) i j≤ga b j:=by rw [←h6]; exact h5
   unfold ga at h8
   unfold gt at h8
   omega
  ·rw [t4]
   have:=h.neg
   have:l*sg n (fun k=>cw a.length (gt c) (it by' (k+1) x) (it by' k x))≤1*sg n (fun k=>cw a.length (gt c) (it by' (k+1) x) (it by' k x)):=Int.mul_le_mul_of_nonpos_right k1 (by omega)
   omega
end Go.LC
namespace Go.LC
open Go.OT
theorem zLb {f g:Nat→Nat} {N:Nat} (h:∀ v,v<N→f v=g v∧g v<N) {x:Nat} (hx:x<N):∀ k,it f k x=it g k x∧it g k x<N
 | 0=>⟨rfl,hx⟩
 | k+1=>by
  obtain ⟨h1,h2⟩:=zLb h hx k
  show f (it f k x)=g (it g k x)∧g (it g k x)<N
  rw [h1]
  exact h _ h2
theorem zVX {w:Nat→Nat→Int} {es:List (Nat×Nat)} (hne:∀ e∈es,e.1≠e.2) {n v:Nat} (hn:1≤n) (hl:(sws w es start n).last=(v:Int)):∃ u,(u,v)∈es:=by
 obtain ⟨h1,_⟩:=swept (w:=w) hne n
 rcases h1.lst hn with ⟨h,_⟩|⟨v',h,h'⟩
 ·rw [h] at hl; omega
 ·have:v'=v:=by omega
  subst this
  exact ⟨_,(h1.prd v' (by omega)).1⟩
section
variable {a b:List Int} {c p:List (List Int)}
theorem zFK (hq:MQ a b c) (hp:Pl a b p) :
 ((lwN c p (a.length+b.length)).last<0→Holds a.length b.length (gt c) (fun i => - (lwN c p (a.length+b.length)).far.getD i 0) (fun j=>(lwN c p (a.length+b.length)).far.getD (a.length+j) 0) ∧
   Tight a.length b.length (gt c) (gt p) (fun i => - (lwN c p (a.length+b.length)).far.getD i 0) (fun j=>(lwN c p (a.length+b.length)).far.getD (a.length+j) 0)) ∧
 (¬(lwN c p (a.length+b.length)).last<0→(lwN c p (a.length+b.length)).last.toNat<a.length+b.length∧rx c p (a.length+b.length)<a.length+b.length ∧
  Round (cw a.length (gt c)) (eTo a.length b.length (gt p) a.length) (byF (lwN c p (a.length+b.length)).by') (rx c p (a.length+b.length)) (rp c p (a.length+b.length))):=by
 have ha:=hq.a5
 have hb:=hq.b5
 have sim:=zGn (q:=p) hq.hc ha hb.2 (a.length+b.length)
 have hL:lwN c p (a.length+b.length)=lwK c p (a.length+b.length) (a.length+b.length):=rfl
 have hrx:rx c p (a.length+b.length)=it (byF (lwK c p (a.length+b.length) (a.length+b.length)).by') (a.length+b.length) (lwK c p (a.length+b.length) (a.length+b.length)).last.toNat:=rfl
 have hrp:rp c p (a.length+b.length)=zGL (byF (lwK c p (a.length+b.length) (a.length+b.length)).by') (a.length+b.length) (rx c p (a.length+b.length)):=rfl
 rw [hL]
 generalize lwK c p (a.length+b.length) (a.length+b.length)=s at sim hrx hrp ⊢
 have hlast:=sim.last
 refine ⟨fun hneg=>?_,fun hpos=>?_⟩
 ·rcases zJ5 (w:=cw a.length (gt c)) (es:=eTo a.length b.length (gt p) a.length) e_ne (n:=a.length+b.length) (by omega) with h1|⟨v,h1⟩
  ·have rest:=zXD e_ne (by omega) h1
   refine ⟨fun i j hi hj=>?_,fun i j hi hj h0=>?_⟩
   ·have h2:=rest (i,a.length+j) (mem_e.2 ⟨i,j,hi,hj,.inl rfl⟩)
    dsimp only at h2
    rw [←sim.d _ (by omega),←sim.d _ (by omega)] at h2
    unfold cw at h2
    rw [if_pos hi,Nat.add_sub_cancel_left] at h2
    dsimp only
    omega
   ·have h2:=rest (i,a.length+j) (mem_e.2 ⟨i,j,hi,hj,.inl rfl⟩)
    have h3:=rest (a.length+j,i) (mem_e.2 ⟨i,j,hi,hj,.inr ⟨h0,rfl⟩⟩)
    dsimp only at h2 h3
    rw [←sim.d _ (by omega),←sim.d _ (by omega)] at h2 h3
    unfold cw at h2 h3
    rw [if_pos hi,Nat.add_sub_cancel_left] at h2
    rw [if_neg (by omega),Nat.add_sub_cancel_left] at h3
    dsimp only
    omega
  ·rw [hlast,h1] at hneg; omega
 ·rcases zJ5 (w:=cw a.length (gt c)) (es:=eTo a.length b.length (gt p) a.length) e_ne (n:=a.length+b.length) (by omega) with h1|⟨v,h1⟩
  ·rw [hlast,h1] at hpos; omega
  ·have hr:=zWK (w:=cw a.length (gt c)) (es:=eTo a.length b.length (gt p) a.length) e_ne e_lt (Nat.le_refl _) (by omega) h1
   obtain ⟨u,hu⟩:=zVX (w:=cw a.length (gt c)) e_ne (by omega) h1
   have hvN:=(e_lt _ hu).2
   dsimp only at hvN
   have hv:s.last.toNat=v:=by rw [hlast,h1]; rfl
   rw [hv] at hrx
   generalize sws (cw a.length (gt c)) (eTo a.length b.length (gt p) a.length) start (a.length+b.length)=g at sim hr h1 hlast
   have hby:∀ u,u<a.length+b.length→byF s.by' u=g.b u∧g.b u<a.length+b.length:=fun u hu=>⟨by unfold byF; rw [sim.b u hu]; rfl,sim.bl u hu⟩
   have hxN:it g.b (a.length+b.length) v<a.length+b.length:=(e_lt _ (hr.edge 0)).2
   have hx:rx c p (a.length+b.length)=it g.b (a.length+b.length) v:=by rw [hrx]; exact (zLb hby hvN _).1
   have hit:∀ k,it (byF s.by') k (it g.b (a.length+b.length) v)=it g.b k (it g.b (a.length+b.length) v):=fun k=>(zLb hby hxN k).1
   have hpp:rp c p (a.length+b.length)=zGL g.b (a.length+b.length) (it g.b (a.length+b.length) v):=by
    rw [hrp,hx]
    unfold zGL
    congr 1
    funext k
    rw [hit k]
   rw [hpp,hx,hv]
   exact ⟨hvN,hxN,hr.congr hit⟩
end
def zGV (c:List (List Int)) (N:Nat):Nat→List (List Int)→List (List Int)
 | 0,p=>p
 | n+1,p=>if (lwN c p N).last<0 then p else zGV c N n (impV c p N)
def costN (R C:Nat) (c p:List (List Int)):Nat:=(cst R C (gt c) (gt p)).toNat
def zEv (a b:List Int) (c:List (List Int)):List (List Int):=zGV c (a.length+b.length) (costN a.length b.length c (cornV a b)+1) (cornV a b)
def zHV (a b:List Int) (c:List (List Int)):List Int:=(lwN c (zEv a b c) (a.length+b.length)).far
section
variable {a b:List Int} {c p:List (List Int)}
theorem zZq (hq:MQ a b c) (hp:Pl a b p):0≤cst a.length b.length (gt c) (gt p) :=
 zDe _ fun i hi=>zDe _ fun j hj=>Int.mul_nonneg (hq.hc.at' i j hi hj).1 (hp.plan.nn i j hi hj)
theorem zHE (hq:MQ a b c) (hp:Pl a b p) (h:¬(lwN c p (a.length+b.length)).last<0):Pl a b (impV c p (a.length+b.length))∧costN a.length b.length c (impV c p (a.length+b.length))<costN a.length b.length c p∧1≤rl c p (a.length+b.length)∧rl c p (a.length+b.length)≤200:=by
 obtain ⟨_,_,h3⟩:=(zFK hq hp).2 h
 obtain ⟨k1,k2,k3,k4⟩:=hp.turn hq.hb h3
 have e1:rl c p (a.length+b.length)=zBd a.length p (byF (lwN c p (a.length+b.length)).by') (rx c p (a.length+b.length)) (rp c p (a.length+b.length)):=by
  unfold rl
  rw [hq.hc.rows]
 have e2:impV c p (a.length+b.length)=turnK a.length p (byF (lwN c p (a.length+b.length)).by') (rx c p (a.length+b.length)) (rl c p (a.length+b.length)) (rp c p (a.length+b.length)):=by
  unfold impV
  rw [hq.hc.rows]
 rw [e1] at e2
 rw [e2,e1]
 have:=zZq hq k3
 exact ⟨k3,by unfold costN; omega,k1,k2⟩
theorem zM9 (hq:MQ a b c):∀ (n:Nat) (p:List (List Int)),Pl a b p→costN a.length b.length c p<n→Pl a b (zGV c (a.length+b.length) n p)∧(lwN c (zGV c (a.length+b.length) n p) (a.length+b.length)).last<0
 | 0,p,_,h=>absurd h (Nat.not_lt_zero _)
 | n+1,p,hp,h=>by
  by_cases hl:(lwN c p (a.length+b.length)).last<0
  ·have e:zGV c (a.length+b.length) (n+1) p=p:=if_pos hl
   rw [e]
   exact ⟨hp,hl⟩
  ·have e:zGV c (a.length+b.length) (n+1) p=zGV c (a.length+b.length) n (impV c p (a.length+b.length)):=if_neg hl
   obtain ⟨k1,k2,_⟩:=zHE hq hp hl
   rw [e]
   exact zM9 hq n _ k1 (by omega)
theorem zQb (hq:MQ a b c):Pl a b (zEv a b c)∧Holds a.length b.length (gt c) (fun i => - (zHV a b c).getD i 0) (fun j=>(zHV a b c).getD (a.length+j) 0) ∧
 Tight a.length b.length (gt c) (gt (zEv a b c)) (fun i => - (zHV a b c).getD i 0) (fun j=>(zHV a b c).getD (a.length+j) 0):=by
 obtain ⟨h1,h2⟩:=zM9 hq _ _ hq.corner (Nat.lt_succ_self _)
 obtain ⟨h3,h4⟩:=(zFK hq h1).1 h2
 exact ⟨h1,h3,h4⟩
end
end Go.LC
