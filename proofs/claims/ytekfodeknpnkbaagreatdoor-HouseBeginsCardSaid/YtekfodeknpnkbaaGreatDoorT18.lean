import Derived.Test.YtekfodeknpnkbaaGreatDoorT16
import Derived.Test.YtekfodeknpnkbaaGreatDoorT17
set_option linter.unusedSimpArgs false
set_option linter.unusedVariables false
namespace Go.LC
open Go.OT
def sws (w:Nat→Nat→Int) (es:List (Nat×Nat)) (s:LS):Nat→LS
 | 0=>s
 | n+1=>sw w es (n+1) (sws w es s n)
section
variable {w:Nat→Nat→Int} {es:List (Nat×Nat)} {r:Nat}
theorem zR1:Swept w es 0 start:=⟨⟨fun _=>Nat.le_refl _,fun v hv=>absurd hv (Nat.not_succ_le_zero 0),fun k v hk hall _=>absurd (hall 0 (by omega)) (Nat.not_succ_le_zero 0),fun h=>absurd h (Nat.not_succ_le_zero 0)⟩,fun e _ h=>absurd h (Nat.lt_irrefl 0)⟩
theorem swept (hne:∀ e∈es,e.1≠e.2):∀ n,Swept w es n (sws w es start n)
 | 0=>zR1
 | n+1=>(swept hne n).next hne
theorem zXD (hne:∀ e∈es,e.1≠e.2) {n:Nat} (hn:1≤n) (hl:(sws w es start n).last = -1):∀ e∈es,(sws w es start n).d e.2≤(sws w es start n).d e.1+w e.1 e.2:=by
 obtain ⟨h1,h2⟩:=swept (w:=w) hne n
 rcases h1.lst hn with ⟨_,h3⟩|⟨v,h3,_⟩
 ·exact fun e he=>h2 e he (h3 e.1)
 ·rw [h3] at hl; omega
theorem zJ5 (hne:∀ e∈es,e.1≠e.2) {n:Nat} (hn:1≤n):(sws w es start n).last = -1∨∃ v:Nat,(sws w es start n).last=(v:Int):=by
 rcases (swept (w:=w) hne n).inv.lst hn with ⟨h,_⟩|⟨v,h,_⟩
 ·exact .inl h
 ·exact .inr ⟨v,h⟩
theorem zJ8 (p:Nat→Bool):∀ n,(least p n=0∧∀ k,1≤k→k≤n→p k=false)∨(1≤least p n∧least p n≤n∧p (least p n)=true∧∀ k,1≤k→k<least p n→p k=false)
 | 0=>.inl ⟨rfl,fun k h1 h2=>by omega⟩
 | n+1=>by
  have e:least p (n+1)=if least p n=0 then (if p (n+1) then n+1 else 0) else least p n:=rfl
  rcases zJ8 p n with ⟨h1,h2⟩|⟨h1,h2,h3,h4⟩
  ·rw [e,if_pos h1]
   by_cases hp:p (n+1)=true
   ·rw [if_pos hp]
    exact .inr ⟨by omega,by omega,hp,fun k k1 k2=>h2 k k1 (by omega)⟩
   ·rw [if_neg hp]
    refine .inl ⟨rfl,fun k k1 k2=>?_⟩
    rcases Nat.lt_or_ge n k with h|h
    ·obtain rfl:k=n+1:=by omega
     simpa using hp
    ·exact h2 k k1 h
  ·rw [e,if_neg (by omega)]
   exact .inr ⟨h1,by omega,h3,h4⟩
theorem zWK (hne:∀ e∈es,e.1≠e.2) {N n:Nat} (hN:∀ e∈es,e.1<N∧e.2<N) (hn:N≤n) (h1N:1≤N) {v:Nat} (hl:(sws w es start n).last=(v:Int)) :
 Round w es (sws w es start n).b (it (sws w es start n).b N v) (zGL (sws w es start n).b N (it (sws w es start n).b N v)):=by
 have hs:=swept (w:=w) hne n
 generalize sws w es start n=s at hs hl ⊢
 obtain ⟨⟨h1,h2,h3,h4⟩,_⟩:=hs
 have hv:s.t v=n:=by
  rcases h4 (by omega) with ⟨h,_⟩|⟨v',h,h'⟩
  ·rw [h] at hl; omega
  ·have:v'=v:=by omega
   rw [←this]; exact h'
 have hst:∀ j,j≤n→n≤s.t (it s.b j v)+j:=by
  intro j
  induction j with
  | zero=>intro _; show n≤s.t v+0; omega
  | succ j ih =>
   intro hj
   have k1:=ih (by omega)
   have k2:=(h2 (it s.b j v) (by omega)).2.2
   show n≤s.t (s.b (it s.b j v))+(j+1)
   omega
 have hlow:∀ j,j<N→1≤s.t (it s.b j v):=fun j hj=>by have:=hst j (by omega); omega
 have hlt:∀ j,j≤N→it s.b j v<N:=fun j hj=>by
  cases j with
  | zero=>exact (hN _ (h2 v (hlow 0 (by omega))).1).2
  | succ j=>exact (hN _ (h2 _ (hlow j (by omega))).1).1
 obtain ⟨i,j,hij,hjN,heq⟩:∃ i j,i<j∧j≤N∧it s.b i v=it s.b j v:=by
  apply Classical.byContradiction
  intro hno
  have:=zMN N (N+1) (fun i=>it s.b i v) (fun i hi=>hlt i (by omega)) (fun i j hij hj he=>hno ⟨i,j,hij,by omega,he⟩)
  omega
 have hall:∀ m,∃ k,k<j∧it s.b m v=it s.b k v:=by
  intro m
  induction m with
  | zero=>exact ⟨0,by omega,rfl⟩
  | succ m ih =>
   obtain ⟨k,hk,he⟩:=ih
   have e1:it s.b (m+1) v=it s.b (k+1) v:=by
    show s.b (it s.b m v)=s.b (it s.b k v)
    rw [he]
   rcases Nat.lt_or_ge (k+1) j with h|h
   ·exact ⟨k+1,h,e1⟩
   ·obtain rfl:j=k+1:=by omega
    exact ⟨i,hij,by rw [e1,heq]⟩
 have hlow2:∀ m,1≤s.t (it s.b m v):=fun m=>by
  obtain ⟨k,hk,he⟩:=hall m
  rw [he]
  exact hlow k (by omega)
 have hx:∀ m,it s.b m (it s.b N v)=it s.b (m+N) v:=fun m=>(zJ1 s.b N v m).symm
 have hback:it s.b (j - i) (it s.b N v)=it s.b N v:=by
  rw [hx,show j - i+N=(N - i)+j by omega,zJ1,←heq,←zJ1,show N - i+i=N by omega]
 generalize hxx:it s.b N v=x at *
 have hp:1≤zGL s.b N x∧it s.b (zGL s.b N x) x=x∧∀ k,1≤k→k<zGL s.b N x→it s.b k x≠x:=by
  rcases zJ8 (fun k=>it s.b k x == x) N with ⟨_,k2⟩|⟨k1,_,k3,k4⟩
  ·have:=k2 (j - i) (by omega) (by omega)
   rw [hback] at this
   simp at this
  ·exact ⟨k1,of_decide_eq_true k3,fun k a b=>of_decide_eq_false (k4 k a b)⟩
 generalize zGL s.b N x=p at hp ⊢
 have hlow3:∀ m,1≤s.t (it s.b m x):=fun m=>by rw [hx]; exact hlow2 _
 refine ⟨hp.1,hp.2.1,hp.2.2,fun m=>(h2 _ (hlow3 m)).1,?_⟩
 obtain ⟨m,hm,hlt2⟩:=h3 p x hp.1 (fun j _=>hlow3 j) hp.2.1
 have k1:sg p (fun m=>w (it s.b (m+1) x) (it s.b m x))<sg p (fun m=>s.d (it s.b m x) - s.d (it s.b (m+1) x)):=by
  refine sg_lt p (fun m _=>?_) hm ?_
  ·have:=(h2 _ (hlow3 m)).2.1
   show w (s.b (it s.b m x)) (it s.b m x)≤s.d (it s.b m x) - s.d (s.b (it s.b m x))
   omega
  ·show w (s.b (it s.b m x)) (it s.b m x)<s.d (it s.b m x) - s.d (s.b (it s.b m x))
   omega
 have k2:∀ q,sg q (fun m=>s.d (it s.b m x) - s.d (it s.b (m+1) x))=s.d x - s.d (it s.b q x):=by
  intro q
  induction q with
  | zero=>show (0:Int)=s.d x - s.d x; omega
  | succ q ih=>simp only [sg,ih]; omega
 rw [k2,hp.2.1] at k1
 omega
end
end Go.LC
