import Derived.Test.YtekfodeknpnkbaaGreatDoorJ4
set_option linter.unusedSimpArgs false
set_option linter.unusedVariables false
namespace Go.LC
open Go.OT
structure LS where
 d:Nat->Int
 b:Nat->Nat
 t:Nat->Nat
 last:Int
def upd {α:Type} (f:Nat->α) (i:Nat) (x:α):Nat->α:=fun j=>if j=i then x else f j
theorem upd_same {α:Type} (f:Nat->α) (i:Nat) (x:α):upd f i x i=x:=ah rfl
theorem upd_ne {α:Type} (f:Nat->α) {i j:Nat} (x:α) (h:j≠i):upd f i x j=f j:=ae h
def lw (w:Nat->Nat->Int) (r:Nat) (s:LS) (e:Nat×Nat):LS :=
 if s.d e.1+w e.1 e.2<s.d e.2 then ⟨upd s.d e.2 (s.d e.1+w e.1 e.2),upd s.b e.2 e.1,upd s.t e.2 r,(e.2:Int)⟩ else s
def sw (w:Nat->Nat->Int) (es:List (Nat×Nat)) (r:Nat) (s:LS):LS:=es.foldl (lw w r) {s with last := -1}
def sws (w:Nat->Nat->Int) (es:List (Nat×Nat)) (s:LS):Nat->LS
 | 0=>s
 | n+1=>sw w es (n+1) (sws w es s n)
def it (b:Nat->Nat):Nat->Nat->Nat
 | 0,v=>v
 | k+1,v=>b (it b k v)
theorem zIR (b:Nat->Nat) (i v:Nat):∀ k,it b (k+i) v=it b k (it b i v)
 | 0=>by rw [bj]; rfl
 | k+1=>by
  rw [show k+1+i=(k+i)+1 by omega]
  show b (it b (k+i) v)=b (it b k (it b i v))
  rw [zIR b i v k]
section
variable {w:Nat->Nat->Int} {es:List (Nat×Nat)} {r:Nat}
structure Inv (w:Nat->Nat->Int) (es:List (Nat×Nat)) (r:Nat) (s:LS):Prop where
 tle:∀ v,s.t v<=r
 prd:∀ v,1<=s.t v->(s.b v,v)∈es/\s.d (s.b v)+w (s.b v) v<=s.d v/\s.t v<=s.t (s.b v)+1
 neg:∀ k v,1<=k->(∀ j,j<k->1<=s.t (it s.b j v))->it s.b k v=v->∃ j,j<k/\s.d (s.b (it s.b j v))+w (s.b (it s.b j v)) (it s.b j v)<s.d (it s.b j v)
 lst:1<=r->s.last = -1/\(∀ v,s.t v<r)\/∃ v:Nat,s.last=(v:Int)/\s.t v=r
structure Mid (w:Nat->Nat->Int) (es:List (Nat×Nat)) (r:Nat) (l:List (Nat×Nat)) (s:LS):Prop where
 inv:Inv w es r s
 old:∀ e∈es,s.t e.1+1<r->s.d e.2<=s.d e.1+w e.1 e.2
 done:∀ e∈l,s.t e.1<r->s.d e.2<=s.d e.1+w e.1 e.2
theorem Inv.lw {s:LS} (hr:1<=r) (hne:∀ e∈es,e.1≠e.2) {l:List (Nat×Nat)} (h:Mid w es r l s) {e:Nat×Nat} (he:e∈es):Mid w es r (e::l) (lw w r s e):=by
 obtain ⟨⟨h1,h2,h3,h4⟩,h5,h6⟩:=h
 obtain ⟨u,v⟩:=e
 have huv:u≠v:=hne _ he
 unfold LC.lw
 dsimp only
 by_cases hc:s.d u+w u v<s.d v
 ·rw [ah hc]
  have hd:∀ x,x≠v->upd s.d v (s.d u+w u v) x=s.d x:=fun x hx=>upd_ne _ _ hx
  have hdv:upd s.d v (s.d u+w u v) v=s.d u+w u v:=upd_same _ _ _
  have hb:∀ x,x≠v->upd s.b v u x=s.b x:=fun x hx=>upd_ne _ _ hx
  have hbv:upd s.b v u v=u:=upd_same _ _ _
  have ht:∀ x,x≠v->upd s.t v r x=s.t x:=fun x hx=>upd_ne _ _ hx
  have htv:upd s.t v r v=r:=upd_same _ _ _
  have hdle:∀ x,upd s.d v (s.d u+w u v) x<=s.d x:=fun x=>by
   by_cases hx:x=v
   ·rw [hx,hdv]; omega
   ·rw [hd x hx]; exact bf _
  have htge:∀ x,s.t x<=upd s.t v r x:=fun x=>by
   by_cases hx:x=v
   ·rw [hx,htv]; exact h1 v
   ·rw [ht x hx]; exact ap _
  have htu:r<=s.t u+1:=by
   apply aO
   intro hn
   have:s.d v<=s.d u+w u v:=h5 (u,v) he (by dsimp only; omega)
   omega
  refine ⟨⟨fun x=>?_,fun x hx=>?_,fun k x hk hall hcyc=>?_,fun _=>.inr ⟨v,rfl,htv⟩⟩,fun e' he' ht'=>?_,fun e' he' ht'=>?_⟩
  ·by_cases hx:x=v
   ·rw [hx]; exact Nat.le_of_eq htv
   ·show upd s.t v r x<=r
    rw [ht x hx]; exact h1 x
  ·dsimp only at hx ⊢
   by_cases hxv:x=v
   ·subst hxv
    rw [hbv,hd u huv,hdv,htv,ht u huv]
    exact ⟨he,bf _,htu⟩
   ·rw [ht x hxv] at hx ⊢
    rw [hb x hxv,hd x hxv]
    obtain ⟨k1,k2,k3⟩:=h2 x hx
    exact ⟨k1,by have:=hdle (s.b x); omega,by have:=htge (s.b x); omega⟩
  ·dsimp only at hall hcyc ⊢
   by_cases hm:∃ j,j<k/\it (upd s.b v u) j x=v
   ·obtain ⟨j,hj,hjv⟩:=hm
    have key:∀ m,m<k->upd s.b v u (it (upd s.b v u) m x)=v->∃ j,j<k/\upd s.d v (s.d u+w u v) (upd s.b v u (it (upd s.b v u) j x))+w (upd s.b v u (it (upd s.b v u) j x)) (it (upd s.b v u) j x)<upd s.d v (s.d u+w u v) (it (upd s.b v u) j x):=by
     intro m hmk hmv
     refine ⟨m,hmk,?_⟩
     have hy:=hall m hmk
     generalize it (upd s.b v u) m x=y at hmv hy ⊢
     have hyv:y≠v:=fun e=>by rw [e,hbv] at hmv; exact huv hmv
     rw [hmv,hdv,hd y hyv]
     rw [hb y hyv] at hmv
     rw [ht y hyv] at hy
     obtain ⟨_,k2,_⟩:=h2 y hy
     rw [hmv] at k2
     omega
    cases j with
    | zero =>
     have hxv:x=v:=hjv
     obtain ⟨k',rfl⟩:∃ k',k=k'+1:=⟨k - 1,by omega⟩
     exact key k' (by omega) (by
      have:upd s.b v u (it (upd s.b v u) k' x)=x:=hcyc
      rw [this,hxv])
    | succ j=>exact key j (by omega) hjv
   ·have hno:∀ j,j<k->it (upd s.b v u) j x≠v:=fun j hj e=>hm ⟨j,hj,e⟩
    have hit:∀ j,j<=k->it (upd s.b v u) j x=it s.b j x:=by
     intro j
     induction j with
     | zero=>intro _; rfl
     | succ j ih =>
      intro hj
      show upd s.b v u (it (upd s.b v u) j x)=s.b (it s.b j x)
      rw [hb _ (hno j (by omega)),ih (by omega)]
    obtain ⟨j,hj,hlt⟩:=h3 k x hk (fun j hj=>by
     have:=hall j hj
     rw [ht _ (hno j hj),hit j (by omega)] at this
     exact this) (by rw [<-hit k (ap _)]; exact hcyc)
    refine ⟨j,hj,?_⟩
    have e1:=hno j hj
    rw [hb _ e1,hd _ e1,hit j (by omega)]
    have:=hdle (s.b (it s.b j x))
    omega
  ·dsimp only at ht' ⊢
   have hu':e'.1≠v:=fun e=>by rw [e,htv] at ht'; omega
   rw [ht _ hu'] at ht'
   rw [hd _ hu']
   have:=h5 e' he' ht'
   have:=hdle e'.2
   omega
  ·dsimp only at ht' ⊢
   have hu':e'.1≠v:=fun e=>by rw [e,htv] at ht'; omega
   rw [ht _ hu'] at ht'
   rw [hd _ hu']
   rcases aI.1 he' with rfl|he'
   ·rw [hdv]; exact bf _
   ·have:=h6 e' he' ht'
    have:=hdle e'.2
    omega
 ·rw [ae hc]
  refine ⟨⟨h1,h2,h3,h4⟩,h5,fun e' he' ht'=>?_⟩
  rcases aI.1 he' with rfl|he'
  ·dsimp only; omega
  ·exact h6 e' he' ht'
theorem Mid.fold {s:LS} (hr:1<=r) (hne:∀ e∈es,e.1≠e.2):∀ (l k:List (Nat×Nat)) (s:LS),(∀ e∈l,e∈es)->Mid w es r k s->Mid w es r (l.reverse++k) (l.foldl (LC.lw w r) s)
 | [],k,s,_,h=>h
 | e::l,k,s,hl,h=>by
  have h1:=Inv.lw hr hne h (hl e (bJ ..))
  have h2:=Mid.fold (s:=s) hr hne l (e::k) _ (fun e' he'=>hl e' (bh _ he')) h1
  simpa using h2
structure Swept (w:Nat->Nat->Int) (es:List (Nat×Nat)) (r:Nat) (s:LS):Prop where
 inv:Inv w es r s
 done:∀ e∈es,s.t e.1<r->s.d e.2<=s.d e.1+w e.1 e.2
theorem Swept.next {s:LS} (hne:∀ e∈es,e.1≠e.2) (h:Swept w es r s):Swept w es (r+1) (sw w es (r+1) s):=by
 obtain ⟨⟨h1,h2,h3,h4⟩,h5⟩:=h
 have h6:=Mid.fold (s:=s) (w:=w) (r:=r+1) (by omega) hne es [] {s with last := -1} (fun _ h=>h)
  ⟨⟨fun v=>by have:=h1 v; dsimp only; omega,h2,h3,fun _=>.inl ⟨rfl,fun v=>by have:=h1 v; dsimp only; omega⟩⟩,fun e he ht=>h5 e he (by dsimp only at ht; omega),fun e he=>by cases he⟩
 exact ⟨h6.inv,fun e he=>h6.done e (by simpa using he)⟩
def start:LS:=⟨fun _=>0,fun _=>0,fun _=>0,-1⟩
theorem zPV:Swept w es 0 start:=⟨⟨fun _=>ap _,fun v hv=>absurd hv (Nat.not_succ_le_zero 0),fun k v hk hall _=>absurd (hall 0 (by omega)) (Nat.not_succ_le_zero 0),fun h=>absurd h (Nat.not_succ_le_zero 0)⟩,fun e _ h=>absurd h (aZ 0)⟩
theorem swept (hne:∀ e∈es,e.1≠e.2):∀ n,Swept w es n (sws w es start n)
 | 0=>zPV
 | n+1=>(swept hne n).next hne
theorem zVb (hne:∀ e∈es,e.1≠e.2) {n:Nat} (hn:1<=n) (hl:(sws w es start n).last = -1):∀ e∈es,(sws w es start n).d e.2<=(sws w es start n).d e.1+w e.1 e.2:=by
 obtain ⟨h1,h2⟩:=swept (w:=w) hne n
 rcases h1.lst hn with ⟨_,h3⟩|⟨v,h3,_⟩
 ·exact fun e he=>h2 e he (h3 e.1)
 ·rw [h3] at hl; omega
theorem zIT (hne:∀ e∈es,e.1≠e.2) {n:Nat} (hn:1<=n):(sws w es start n).last = -1\/∃ v:Nat,(sws w es start n).last=(v:Int):=by
 rcases (swept (w:=w) hne n).inv.lst hn with ⟨h,_⟩|⟨v,h,_⟩
 ·exact .inl h
 ·exact .inr ⟨v,h⟩
def least:(Nat->Bool)->Nat->Nat
 | _,0=>0
 | p,n+1=>if least p n=0 then (if p (n+1) then n+1 else 0) else least p n
theorem zIV (p:Nat->Bool):∀ n,(least p n=0/\∀ k,1<=k->k<=n->p k=false)\/(1<=least p n/\least p n<=n/\p (least p n)=true/\∀ k,1<=k->k<least p n->p k=false)
 | 0=>.inl ⟨rfl,fun k h1 h2=>by omega⟩
 | n+1=>by
  have e:least p (n+1)=if least p n=0 then (if p (n+1) then n+1 else 0) else least p n:=rfl
  rcases zIV p n with ⟨h1,h2⟩|⟨h1,h2,h3,h4⟩
  ·rw [e,ah h1]
   by_cases hp:p (n+1)=true
   ·rw [ah hp]
    exact .inr ⟨by omega,by omega,hp,fun k k1 k2=>h2 k k1 (by omega)⟩
   ·rw [ae hp]
    refine .inl ⟨rfl,fun k k1 k2=>?_⟩
    rcases ai n k with h|h
    ·obtain rfl:k=n+1:=by omega
     simpa using hp
    ·exact h2 k k1 h
  ·rw [e,ae (by omega)]
   exact .inr ⟨h1,by omega,h3,h4⟩
def zFT (b:Nat->Nat) (n x:Nat):Nat:=least (fun k=>it b k x == x) n
structure Round (w:Nat->Nat->Int) (es:List (Nat×Nat)) (b:Nat->Nat) (x p:Nat):Prop where
 pos:1<=p
 back:it b p x=x
 first:∀ k,1<=k->k<p->it b k x≠x
 edge:∀ m,(it b (m+1) x,it b m x)∈es
 neg:sg p (fun m=>w (it b (m+1) x) (it b m x))<0
theorem Round.inj {b:Nat->Nat} {x p:Nat} (h:Round w es b x p) {i j:Nat} (hij:i<j) (hj:j<p):it b i x≠it b j x:=fun e=>by
 have h1:it b ((p - j)+i) x=it b ((p - j)+j) x:=by rw [zIR,zIR,e]
 rw [show p - j+j=p by omega,h.back] at h1
 exact h.first (p - j+i) (by omega) (by omega) h1
theorem zUm (hne:∀ e∈es,e.1≠e.2) {N n:Nat} (hN:∀ e∈es,e.1<N/\e.2<N) (hn:N<=n) (h1N:1<=N) {v:Nat} (hl:(sws w es start n).last=(v:Int)) :
 Round w es (sws w es start n).b (it (sws w es start n).b N v) (zFT (sws w es start n).b N (it (sws w es start n).b N v)):=by
 have hs:=swept (w:=w) hne n
 generalize sws w es start n=s at hs hl ⊢
 obtain ⟨⟨h1,h2,h3,h4⟩,_⟩:=hs
 have hv:s.t v=n:=by
  rcases h4 (by omega) with ⟨h,_⟩|⟨v',h,h'⟩
  ·rw [h] at hl; omega
  ·have:v'=v:=by omega
   rw [<-this]; exact h'
 have hst:∀ j,j<=n->n<=s.t (it s.b j v)+j:=by
  intro j
  induction j with
  | zero=>intro _; show n<=s.t v+0; omega
  | succ j ih =>
   intro hj
   have k1:=ih (by omega)
   have k2:=(h2 (it s.b j v) (by omega)).2.2
   show n<=s.t (s.b (it s.b j v))+(j+1)
   omega
 have hlow:∀ j,j<N->1<=s.t (it s.b j v):=fun j hj=>by have:=hst j (by omega); omega
 have hlt:∀ j,j<=N->it s.b j v<N:=fun j hj=>by
  cases j with
  | zero=>exact (hN _ (h2 v (hlow 0 (by omega))).1).2
  | succ j=>exact (hN _ (h2 _ (hlow j (by omega))).1).1
 obtain ⟨i,j,hij,hjN,heq⟩:∃ i j,i<j/\j<=N/\it s.b i v=it s.b j v:=by
  apply aO
  intro hno
  have:=zLh N (N+1) (fun i=>it s.b i v) (fun i hi=>hlt i (by omega)) (fun i j hij hj he=>hno ⟨i,j,hij,by omega,he⟩)
  omega
 have hall:∀ m,∃ k,k<j/\it s.b m v=it s.b k v:=by
  intro m
  induction m with
  | zero=>exact ⟨0,by omega,rfl⟩
  | succ m ih =>
   obtain ⟨k,hk,he⟩:=ih
   have e1:it s.b (m+1) v=it s.b (k+1) v:=by
    show s.b (it s.b m v)=s.b (it s.b k v)
    rw [he]
   rcases ai (k+1) j with h|h
   ·exact ⟨k+1,h,e1⟩
   ·obtain rfl:j=k+1:=by omega
    exact ⟨i,hij,by rw [e1,heq]⟩
 have hlow2:∀ m,1<=s.t (it s.b m v):=fun m=>by
  obtain ⟨k,hk,he⟩:=hall m
  rw [he]
  exact hlow k (by omega)
 have hx:∀ m,it s.b m (it s.b N v)=it s.b (m+N) v:=fun m=>(zIR s.b N v m).symm
 have hback:it s.b (j - i) (it s.b N v)=it s.b N v:=by
  rw [hx,show j - i+N=(N - i)+j by omega,zIR,<-heq,<-zIR,show N - i+i=N by omega]
 generalize hxx:it s.b N v=x at *
 have hp:1<=zFT s.b N x/\it s.b (zFT s.b N x) x=x/\∀ k,1<=k->k<zFT s.b N x->it s.b k x≠x:=by
  rcases zIV (fun k=>it s.b k x == x) N with ⟨_,k2⟩|⟨k1,_,k3,k4⟩
  ·have:=k2 (j - i) (by omega) (by omega)
   rw [hback] at this
   simp at this
  ·exact ⟨k1,bg k3,fun k a b=>of_decide_eq_false (k4 k a b)⟩
 generalize zFT s.b N x=p at hp ⊢
 have hlow3:∀ m,1<=s.t (it s.b m x):=fun m=>by rw [hx]; exact hlow2 _
 refine ⟨hp.1,hp.2.1,hp.2.2,fun m=>(h2 _ (hlow3 m)).1,?_⟩
 obtain ⟨m,hm,hlt2⟩:=h3 p x hp.1 (fun j _=>hlow3 j) hp.2.1
 have k1:sg p (fun m=>w (it s.b (m+1) x) (it s.b m x))<sg p (fun m=>s.d (it s.b m x) - s.d (it s.b (m+1) x)):=by
  refine sg_lt p (fun m _=>?_) hm ?_
  ·have:=(h2 _ (hlow3 m)).2.1
   show w (s.b (it s.b m x)) (it s.b m x)<=s.d (it s.b m x) - s.d (s.b (it s.b m x))
   omega
  ·show w (s.b (it s.b m x)) (it s.b m x)<s.d (it s.b m x) - s.d (s.b (it s.b m x))
   omega
 have k2:∀ q,sg q (fun m=>s.d (it s.b m x) - s.d (it s.b (m+1) x))=s.d x - s.d (it s.b q x):=by
  intro q
  induction q with
  | zero=>show (0:Int)=s.d x - s.d x; omega
  | succ q ih=>simp only [sg,ih]; omega
 rw [k2,hp.2.1] at k1
 omega
end
end Go.LC
namespace Go.LC
open Go.OT
structure Cn where
 out:List (List Int)
 fr:List Int
 to:List Int
def zBi (i j:Nat) (s:Cn):Cn:=⟨s.out.set i ((s.out.getD i []).set j (min (s.fr.getD i 0) (s.to.getD j 0))),s.fr.set i (s.fr.getD i 0 - min (s.fr.getD i 0) (s.to.getD j 0)),s.to.set j (s.to.getD j 0 - min (s.fr.getD i 0) (s.to.getD j 0))⟩
def zVl (C i:Nat) (s:Cn):Cn:=upto (zBi i) C s
def cornK (a b:List Int) (k:Nat):Cn:=upto (zVl b.length) k ⟨zDf a b,a,b⟩
def cornV (a b:List Int):List (List Int):=(cornK a b a.length).out
structure CnI (a b:List Int) (dn:Nat->Nat->Prop) (s:Cn):Prop where
 tab:Tb a.length b.length 0 200 s.out
 l1:s.fr.length=a.length
 l2:s.to.length=b.length
 nn1:∀ i,i<a.length->0<=s.fr.getD i 0/\s.fr.getD i 0<=200
 nn2:∀ j,j<b.length->0<=s.to.getD j 0/\s.to.getD j 0<=200
 row:∀ i,i<a.length->rowS b.length (gt s.out) i+s.fr.getD i 0=ga a i
 col:∀ j,j<b.length->colS a.length (gt s.out) j+s.to.getD j 0=ga b j
 met:∀ i j,i<a.length->j<b.length->dn i j->s.fr.getD i 0=0\/s.to.getD j 0=0
 rest:∀ i j,i<a.length->j<b.length->¬dn i j->gt s.out i j=0
theorem CnI.step {a b:List Int} {dn:Nat->Nat->Prop} {s:Cn} (h:CnI a b dn s) {i j:Nat} (hi:i<a.length) (hj:j<b.length) (hn:¬dn i j):CnI a b (fun i' j'=>dn i' j'\/i'=i/\j'=j) (zBi i j s):=by
 have h0:=h.rest i j hi hj hn
 have k1:=h.nn1 i hi
 have k2:=h.nn2 j hj
 have e1:(zBi i j s).out=addAt s.out i j (min (s.fr.getD i 0) (s.to.getD j 0)):=by
  unfold gt at h0
  unfold zBi addAt
  dsimp only
  rw [h0,Int.zero_add]
 have e2:gt (zBi i j s).out=bump (gt s.out) i j (min (s.fr.getD i 0) (s.to.getD j 0)):=by
  rw [e1,zCY h.tab.sz hi hj]
 have f1:∀ k,(zBi i j s).fr.getD k 0=if k=i then s.fr.getD i 0 - min (s.fr.getD i 0) (s.to.getD j 0) else s.fr.getD k 0:=fun k=>zBj (by rw [h.l1]; exact hi) _ _
 have f2:∀ k,(zBi i j s).to.getD k 0=if k=j then s.to.getD j 0 - min (s.fr.getD i 0) (s.to.getD j 0) else s.to.getD k 0:=fun k=>zBj (by rw [h.l2]; exact hj) _ _
 have sz:=(h.tab.sz.add (j:=j) (d:=min (s.fr.getD i 0) (s.to.getD j 0)) hi)
 rw [<-e1] at sz
 refine ⟨⟨sz.rows,sz.cols,fun i' j' hi' hj'=>?_⟩,by simp [zBi,h.l1],by simp [zBi,h.l2],fun k hk=>?_,fun k hk=>?_,fun k hk=>?_,fun k hk=>?_,fun i' j' hi' hj' hd=>?_,fun i' j' hi' hj' hd=>?_⟩
 ·have e3:=congrFun (congrFun e2 i') j'
  unfold gt at e3
  rw [e3]
  have:=h.tab.at' i' j' hi' hj'
  unfold bump
  dsimp only
  by_cases hc:i'=i/\j'=j
  ·obtain ⟨rfl,rfl⟩:=hc
   unfold gt at h0
   rw [ah ⟨rfl,rfl⟩,h0]; omega
  ·rw [ae hc]; omega
 ·rw [f1]; have:=h.nn1 k hk; split<;>omega
 ·rw [f2]; have:=h.nn2 k hk; split<;>omega
 ·rw [e2,zDO _ hj,f1]
  have:=h.row k hk
  split
  ·rename_i hk'; subst hk'; omega
  ·omega
 ·rw [e2,zDF _ hi,f2]
  have:=h.col k hk
  split
  ·rename_i hk'; subst hk'; omega
  ·omega
 ·rw [f1,f2]
  rcases hd with hd|⟨rfl,rfl⟩
  ·have k3:=h.met i' j' hi' hj' hd
   split
   ·rename_i e; subst e
    split
    ·rename_i e; subst e; omega
    ·omega
   ·split
    ·rename_i e; subst e; omega
    ·omega
  ·rw [ah rfl,ah rfl]; omega
 ·rw [e2]
  unfold bump
  rw [ae (fun h=>hd (.inr h)),h.rest i' j' hi' hj' (fun h=>hd (.inl h))]
  rfl
theorem CnI.weak {a b:List Int} {dn dn':Nat->Nat->Prop} {s:Cn} (h:CnI a b dn s) (he:∀ i j,i<a.length->j<b.length->(dn i j↔dn' i j)):CnI a b dn' s :=
 ⟨h.tab,h.l1,h.l2,h.nn1,h.nn2,h.row,h.col,fun i j hi hj hd=>h.met i j hi hj ((he i j hi hj).2 hd),fun i j hi hj hd=>h.rest i j hi hj fun h2=>hd ((he i j hi hj).1 h2)⟩
theorem CnI.row' {a b:List Int} {s:Cn} {i:Nat} (hi:i<a.length) (h:CnI a b (fun i' _=>i'<i) s):∀ j,j<=b.length->CnI a b (fun i' j'=>i'<i\/i'=i/\j'<j) (upto (zBi i) j s)
 | 0,_=>h.weak fun i' j' _ _=>⟨.inl,fun h=>by rcases h with h|⟨_,h⟩; exact h; omega⟩
 | j+1,hj=>by
  have h1:=(CnI.row' hi h j (by omega)).step hi (j:=j) (by omega) (by omega)
  exact h1.weak fun i' j' _ _=>by omega
structure MQ (a b:List Int) (c:List (List Int)):Prop where
 a5:1<=a.length/\a.length<=6
 b5:1<=b.length/\b.length<=6
 ha:Bnd 0 200 a
 hb:Bnd 0 200 b
 hc:Tb a.length b.length 0 1000000 c
 hs:sumL a=sumL b
theorem zJH {a b:List Int} (ha:Bnd 0 200 a) (hb:Bnd 0 200 b):∀ k,k<=a.length->CnI a b (fun i _=>i<k) (cornK a b k)
 | 0,_=>by
  refine ⟨zKH a b (by omega) (by omega),rfl,rfl,fun i hi=>ha.at hi,fun j hj=>hb.at hj,fun i hi=>?_,fun j hj=>?_,fun i j _ _ h=>absurd h (bE _),fun i j _ _ _=>?_⟩
  ·show rowS _ (gt (zDf a b)) i+_=_
   rw [zCD,zH1]
   show 0+a.getD i 0=ga a i
   unfold ga; omega
  ·show colS _ (gt (zDf a b)) j+_=_
   rw [zCD,zKz]
   show 0+b.getD j 0=ga b j
   unfold ga; omega
  ·show gt (zDf a b) i j=0
   rw [zCD]
 | k+1,hk=>by
  have h1:=CnI.row' (i:=k) (by omega) (zJH ha hb k (by omega)) b.length (ap _)
  exact h1.weak fun i j _ hj=>by omega
structure Pl (a b:List Int) (p:List (List Int)):Prop where
 tab:Tb a.length b.length 0 200 p
 plan:IsPlan a.length b.length (ga a) (ga b) (gt p)
theorem MQ.corner {a b:List Int} {c:List (List Int)} (h:MQ a b c):Pl a b (cornV a b):=by
 have h1:=zJH h.ha h.hb a.length (ap _)
 have hR:cornV a b=(cornK a b a.length).out:=rfl
 rw [hR]
 generalize cornK a b a.length=s at h1 ⊢
 have s1:sg a.length (rowS b.length (gt s.out))+sg a.length (fun i=>s.fr.getD i 0)=sumL a:=by
  rw [<-zCV]; exact zAm _ fun i hi=>h1.row i hi
 have s2:sg b.length (colS a.length (gt s.out))+sg b.length (fun j=>s.to.getD j 0)=sumL b:=by
  rw [<-zCV]; exact zAm _ fun j hj=>h1.col j hj
 have s3:sg a.length (rowS b.length (gt s.out))=sg b.length (colS a.length (gt s.out)):=zCN _ _ _
 have s4:=h.hs
 have z1:∀ i,i<a.length->s.fr.getD i 0=0:=by
  apply aO
  intro hn
  have hn2:∃ i,i<a.length/\s.fr.getD i 0≠0:=aO fun hx=>hn fun i hi=>aO fun h=>hx ⟨i,hi,h⟩
  obtain ⟨i,hi,hne⟩:=hn2
  have z2:∀ j,j<b.length->s.to.getD j 0=0:=fun j hj=>(h1.met i j hi hj hi).resolve_left hne
  have:sg b.length (fun j=>s.to.getD j 0)=0:=(zAm _ z2).trans (zCS _)
  have:=zKf a.length (fun i hi=>(h1.nn1 i hi).1) (by omega) i hi
  exact hne this
 have z2:∀ j,j<b.length->s.to.getD j 0=0:=fun j hj=>by
  have:sg a.length (fun i=>s.fr.getD i 0)=0:=(zAm _ z1).trans (zCS _)
  exact zKf b.length (fun i hi=>(h1.nn2 i hi).1) (by omega) j hj
 exact ⟨h1.tab,fun i j hi hj=>(h1.tab.at' i j hi hj).1,fun i hi=>by have:=h1.row i hi; rw [z1 i hi] at this; omega,fun j hj=>by have:=h1.col j hj; rw [z2 j hj] at this; omega⟩
structure LL where
 far:List Int
 by':List Int
 last:Int
def lwC (R:Nat) (c:Int) (i j:Nat) (s:LL):LL:=if s.far.getD i 0+c<s.far.getD (R+j) 0 then ⟨s.far.set (R+j) (s.far.getD i 0+c),s.by'.set (R+j) (i:Int),((R+j:Nat):Int)⟩ else s
def lwR (R:Nat) (c n:Int) (i j:Nat) (s:LL):LL:=if 0<n/\s.far.getD (R+j) 0 - c<s.far.getD i 0 then ⟨s.far.set i (s.far.getD (R+j) 0 - c),s.by'.set i ((R+j:Nat):Int),(i:Int)⟩ else s
def lw2 (c p:List (List Int)) (i j:Nat) (s:LL):LL:=lwR c.length ((c.getD i []).getD j 0) ((p.getD i []).getD j 0) i j (lwC c.length ((c.getD i []).getD j 0) i j s)
def lwRow (c p:List (List Int)) (i:Nat) (s:LL):LL:=upto (lw2 c p i) (c.getD i []).length s
def lwAll (c p:List (List Int)) (s:LL):LL:=upto (lwRow c p) c.length {s with last := -1}
def lwK (c p:List (List Int)) (N k:Nat):LL:=upto (fun _=>lwAll c p) k ⟨List.replicate N 0,List.replicate N 0,-1⟩
def cw (R:Nat) (c:Nat->Nat->Int) (u v:Nat):Int:=if u<R then c u (v - R) else - c v (u - R)
def eAt (R:Nat) (p:Nat->Nat->Int) (i j:Nat):List (Nat×Nat):=(i,R+j)::(if 0<p i j then [(R+j,i)] else [])
def eRow (R:Nat) (p:Nat->Nat->Int) (i:Nat):Nat->List (Nat×Nat)
 | 0=>[]
 | j+1=>eRow R p i j++eAt R p i j
def eTo (R C:Nat) (p:Nat->Nat->Int):Nat->List (Nat×Nat)
 | 0=>[]
 | i+1=>eTo R C p i++eRow R p i C
section
variable {R C:Nat} {p:Nat->Nat->Int}
theorem zRF {e:Nat×Nat} {i j:Nat}:e∈eAt R p i j↔e=(i,R+j)\/0<p i j/\e=(R+j,i):=by
 unfold eAt
 by_cases h:0<p i j
 ·simp [h]
 ·simp [h]
theorem zOc {e:Nat×Nat} {i:Nat}:∀ (n:Nat),e∈eRow R p i n↔∃ j,j<n/\e∈eAt R p i j
 | 0=>by simp [eRow]
 | n+1=>by
  simp only [eRow,aV,zOc n]
  constructor
  ·rintro (⟨j,hj,h⟩|h)
   ·exact ⟨j,by omega,h⟩
   ·exact ⟨n,by omega,h⟩
  ·rintro ⟨j,hj,h⟩
   rcases ai j n with h2|h2
   ·exact .inl ⟨j,h2,h⟩
   ·obtain rfl:j=n:=by omega
    exact .inr h
theorem zRG {e:Nat×Nat}:∀ (n:Nat),e∈eTo R C p n↔∃ i j,i<n/\j<C/\e∈eAt R p i j
 | 0=>by simp [eTo]
 | n+1=>by
  simp only [eTo,aV,zRG n,zOc]
  constructor
  ·rintro (⟨i,j,hi,hj,h⟩|⟨j,hj,h⟩)
   ·exact ⟨i,j,by omega,hj,h⟩
   ·exact ⟨n,j,by omega,hj,h⟩
  ·rintro ⟨i,j,hi,hj,h⟩
   rcases ai i n with h2|h2
   ·exact .inl ⟨i,j,h2,hj,h⟩
   ·obtain rfl:i=n:=by omega
    exact .inr ⟨j,hj,h⟩
theorem mem_e {e:Nat×Nat}:e∈eTo R C p R↔∃ i j,i<R/\j<C/\(e=(i,R+j)\/0<p i j/\e=(R+j,i)):=by
 rw [zRG]
 constructor
 ·rintro ⟨i,j,hi,hj,h⟩; exact ⟨i,j,hi,hj,zRF.1 h⟩
 ·rintro ⟨i,j,hi,hj,h⟩; exact ⟨i,j,hi,hj,zRF.2 h⟩
theorem e_ne:∀ e∈eTo R C p R,e.1≠e.2:=fun e he=>by
 obtain ⟨i,j,hi,hj,rfl|⟨_,rfl⟩⟩:=mem_e.1 he<;>dsimp only<;>omega
theorem e_lt:∀ e∈eTo R C p R,e.1<R+C/\e.2<R+C:=fun e he=>by
 obtain ⟨i,j,hi,hj,rfl|⟨_,rfl⟩⟩:=mem_e.1 he<;>dsimp only<;>omega
structure Sim (N:Nat) (m:Int) (s:LL) (g:LS):Prop where
 l1:s.far.length=N
 l2:s.by'.length=N
 d:∀ v,v<N->s.far.getD v 0=g.d v
 b:∀ v,v<N->s.by'.getD v 0=(g.b v:Int)
 bl:∀ v,v<N->g.b v<N
 last:s.last=g.last
 bnd:∀ v,v<N -> -1000000*m<=s.far.getD v 0/\s.far.getD v 0<=0
theorem Sim.set {N:Nat} {m:Int} {s:LL} {g:LS} (h:Sim N m s g) {u v:Nat} (hu:u<N) (hv:v<N) (r:Nat) {x w:Int} (hx:x=g.d u+w) (hb : -1000000*(m+1)<=x/\x<=0) :
 Sim N (m+1) ⟨s.far.set v x,s.by'.set v (u:Int),(v:Int)⟩ ⟨upd g.d v (g.d u+w),upd g.b v u,upd g.t v r,(v:Int)⟩:=by
 refine ⟨by simp [h.l1],by simp [h.l2],fun k hk=>?_,fun k hk=>?_,fun k hk=>?_,rfl,fun k hk=>?_⟩
 ·show (s.far.set v x).getD k 0=upd g.d v (g.d u+w) k
  rw [zBj (by rw [h.l1]; exact hv)]
  by_cases hkv:k=v
  ·subst hkv; rw [ah rfl,upd_same]; exact hx
  ·rw [ae hkv,upd_ne _ _ hkv]; exact h.d k hk
 ·show (s.by'.set v (u:Int)).getD k 0=((upd g.b v u k:Nat):Int)
  rw [zBj (by rw [h.l2]; exact hv)]
  by_cases hkv:k=v
  ·subst hkv; rw [ah rfl,upd_same]
  ·rw [ae hkv,upd_ne _ _ hkv]; exact h.b k hk
 ·show upd g.b v u k<N
  by_cases hkv:k=v
  ·subst hkv; rw [upd_same]; exact hu
  ·rw [upd_ne _ _ hkv]; exact h.bl k hk
 ·show -1000000*(m+1)<=(s.far.set v x).getD k 0/\(s.far.set v x).getD k 0<=0
  rw [zBj (by rw [h.l1]; exact hv)]
  have:=h.bnd k hk
  split<;>omega
theorem Sim.mono {N:Nat} {m m':Int} {s:LL} {g:LS} (h:Sim N m s g) (hm:m<=m'):Sim N m' s g:=⟨h.l1,h.l2,h.d,h.b,h.bl,h.last,fun v hv=>by have:=h.bnd v hv; omega⟩
theorem Sim.lwC {m:Int} {s:LL} {g:LS} (h:Sim (R+C) m s g) {c:Nat->Nat->Int} {i j:Nat} (hi:i<R) (hj:j<C) (hc:0<=c i j/\c i j<=1000000) (r:Nat):Sim (R+C) (m+1) (lwC R (c i j) i j s) (lw (cw R c) r g (i,R+j)):=by
 have e1:=h.d i (by omega)
 have e2:=h.d (R+j) (by omega)
 have e3:cw R c i (R+j)=c i j:=by
  unfold cw
  rw [ah hi,aT]
 unfold LC.lwC lw
 dsimp only
 rw [e3,<-e1,<-e2]
 by_cases hx:s.far.getD i 0+c i j<s.far.getD (R+j) 0
 ·rw [ah hx,ah hx]
  have b1:=h.bnd i (by omega)
  have b2:=h.bnd (R+j) (by omega)
  have:=h.set (u:=i) (v:=R+j) (w:=c i j) (by omega) (by omega) r (x:=s.far.getD i 0+c i j) (by rw [e1]) (by omega)
  rw [<-e1] at this
  exact this
 ·rw [ae hx,ae hx]
  exact h.mono (by omega)
theorem Sim.lwR {m:Int} {s:LL} {g:LS} (h:Sim (R+C) m s g) {c:Nat->Nat->Int} {i j:Nat} (hi:i<R) (hj:j<C) (hc:0<=c i j/\c i j<=1000000) (r:Nat) (n:Int):Sim (R+C) (m+1) (lwR R (c i j) n i j s) (if 0<n then lw (cw R c) r g (R+j,i) else g):=by
 have e1:=h.d i (by omega)
 have e2:=h.d (R+j) (by omega)
 have e3:cw R c (R+j) i = - c i j:=by
  unfold cw
  rw [ae (by omega),aT]
 unfold LC.lwR lw
 dsimp only
 rw [e3,<-e1,<-e2]
 by_cases hn:0<n
 ·rw [ah hn]
  by_cases hx:s.far.getD (R+j) 0 - c i j<s.far.getD i 0
  ·rw [ah ⟨hn,hx⟩,ah (by omega)]
   have b1:=h.bnd i (by omega)
   have b2:=h.bnd (R+j) (by omega)
   have:=h.set (u:=R+j) (v:=i) (w := - c i j) (by omega) (by omega) r (x:=s.far.getD (R+j) 0 - c i j) (by rw [e2]; omega) (by omega)
   rw [<-e2] at this
   exact this
  ·rw [ae (fun h=>hx h.2),ae (by omega)]
   exact h.mono (by omega)
 ·rw [ae (fun h=>hn h.1),ae hn]
  exact h.mono (by omega)
variable {c q:List (List Int)}
theorem Sim.step {m:Int} {s:LL} {g:LS} (hc:Tb R C 0 1000000 c) (h:Sim (R+C) m s g) {i j:Nat} (hi:i<R) (hj:j<C) (r:Nat):Sim (R+C) (m+2) (lw2 c q i j s) ((eAt R (gt q) i j).foldl (lw (cw R (gt c)) r) g):=by
 have h1:=h.lwC (c:=gt c) hi hj (hc.at' i j hi hj) r
 have h2:=h1.lwR (c:=gt c) hi hj (hc.at' i j hi hj) r (gt q i j)
 unfold lw2 eAt
 rw [hc.rows,List.foldl_cons]
 have e:(if 0<gt q i j then [(R+j,i)] else []).foldl (lw (cw R (gt c)) r) (lw (cw R (gt c)) r g (i,R+j))=if 0<gt q i j then lw (cw R (gt c)) r (lw (cw R (gt c)) r g (i,R+j)) (R+j,i) else lw (cw R (gt c)) r g (i,R+j):=by
  by_cases h0:0<gt q i j
  ·rw [ah h0,ah h0]; rfl
  ·rw [ae h0,ae h0]; rfl
 rw [e]
 exact h2.mono (by omega)
theorem Sim.row {m:Int} {s:LL} {g:LS} (hc:Tb R C 0 1000000 c) (h:Sim (R+C) m s g) {i:Nat} (hi:i<R) (r:Nat):∀ j,j<=C->Sim (R+C) (m+2*j) (upto (lw2 c q i) j s) ((eRow R (gt q) i j).foldl (lw (cw R (gt c)) r) g)
 | 0,_=>h.mono (by omega)
 | j+1,hj=>by
  have h1:=(Sim.row hc h hi r j (by omega)).step (q:=q) hc hi (j:=j) (by omega) r
  show Sim (R+C) _ (lw2 c q i j (upto (lw2 c q i) j s)) ((eRow R (gt q) i j++eAt R (gt q) i j).foldl _ _)
  rw [cq]
  exact h1.mono (by omega)
theorem Sim.tab {m:Int} {s:LL} {g:LS} (hc:Tb R C 0 1000000 c) (hC:C<=6) (h:Sim (R+C) m s g) (r:Nat):∀ i,i<=R->Sim (R+C) (m+12*i) (upto (lwRow c q) i s) ((eTo R C (gt q) i).foldl (lw (cw R (gt c)) r) g)
 | 0,_=>h.mono (by omega)
 | i+1,hi=>by
  have h1:=(Sim.tab hc hC h r i (by omega)).row (q:=q) hc (i:=i) (by omega) r C (ap _)
  show Sim (R+C) _ (upto (lw2 c q i) (c.getD i []).length (upto (lwRow c q) i s)) ((eTo R C (gt q) i++eRow R (gt q) i C).foldl _ _)
  rw [cq,hc.cols i (by omega)]
  exact h1.mono (by omega)
theorem Sim.start {m:Int} {s:LL} {g:LS} (h:Sim (R+C) m s g):Sim (R+C) m {s with last := -1} {g with last := -1}:=⟨h.l1,h.l2,h.d,h.b,h.bl,rfl,h.bnd⟩
theorem zFt (hc:Tb R C 0 1000000 c) (hR:1<=R/\R<=6) (hC:C<=6):∀ k:Nat,Sim (R+C) (72*(k:Int)) (lwK c q (R+C) k) (sws (cw R (gt c)) (eTo R C (gt q) R) LC.start k)
 | 0=>by
  have e:∀ v,(List.replicate (R+C) (0:Int)).getD v 0=0:=fun v=>by
   rw [ab,bz]; split<;>rfl
  exact ⟨by simp [lwK,upto],by simp [lwK,upto],fun v _=>e v,fun v _=>e v,fun v _=>by show 0<R+C; omega,rfl,fun v _=>by have e2:(lwK c q (R+C) 0).far.getD v 0=0:=e v; omega⟩
 | k+1=>by
  have h1:=Sim.tab (q:=q) hc hC (zFt hc hR hC k).start (k+1) R (ap _)
  show Sim (R+C) _ (upto (lwRow c q) c.length {lwK c q (R+C) k with last := -1}) _
  rw [hc.rows]
  exact h1.mono (by omega)
end
end Go.LC
namespace Go.LC
open Go.OT
def byF (l:List Int) (v:Nat):Nat:=(l.getD v 0).toNat
def zA3 (R:Nat) (p:List (List Int)) (b:Nat->Nat) (x:Nat):Nat->Int
 | 0 => -1
 | m+1=>if it b m x<R then
  (if zA3 R p b x m<0\/(p.getD (it b m x) []).getD (b (it b m x) - R) 0<zA3 R p b x m then (p.getD (it b m x) []).getD (b (it b m x) - R) 0 else zA3 R p b x m)
  else zA3 R p b x m
def zKk (R:Nat) (b:Nat->Nat) (l:Int) (at':Nat) (q:List (List Int)):List (List Int):=if at'<R then addAt q at' (b at' - R) (-l) else addAt q (b at') (at' - R) l
def turnK (R:Nat) (p:List (List Int)) (b:Nat->Nat) (x:Nat) (l:Int):Nat->List (List Int)
 | 0=>p
 | m+1=>zKk R b l (it b m x) (turnK R p b x l m)
def lwN (c p:List (List Int)) (N:Nat):LL:=lwK c p N N
def rx (c p:List (List Int)) (N:Nat):Nat:=it (byF (lwN c p N).by') N (lwN c p N).last.toNat
def rp (c p:List (List Int)) (N:Nat):Nat:=zFT (byF (lwN c p N).by') N (rx c p N)
def rl (c p:List (List Int)) (N:Nat):Int:=zA3 c.length p (byF (lwN c p N).by') (rx c p N) (rp c p N)
def impV (c p:List (List Int)) (N:Nat):List (List Int):=turnK c.length p (byF (lwN c p N).by') (rx c p N) (rl c p N) (rp c p N)
section
variable {R C:Nat} {c p:Nat->Nat->Int} {b:Nat->Nat} {x n:Nat}
theorem zDb (h:Round (cw R c) (eTo R C p R) b x n) (m:Nat) :
 (∃ i j,i<R/\j<C/\it b m x=R+j/\it b (m+1) x=i)\/(∃ i j,i<R/\j<C/\0<p i j/\it b m x=i/\it b (m+1) x=R+j):=by
 obtain ⟨i,j,hi,hj,he|⟨h0,he⟩⟩:=mem_e.1 (h.edge m)
 ·simp only [aK] at he
  exact .inl ⟨i,j,hi,hj,he.2,he.1⟩
 ·simp only [aK] at he
  exact .inr ⟨i,j,hi,hj,h0,he.2,he.1⟩
theorem zVI (h:Round (cw R c) (eTo R C p R) b x n):∃ m,m<n/\it b m x<R:=by
 rcases zDb h 0 with ⟨i,j,hi,hj,h1,h2⟩|⟨i,j,hi,hj,h0,h1,h2⟩
 ·have hn:1<n:=by
   have:=h.pos
   rcases ai 1 n with h3|h3
   ·exact h3
   ·have:n=1:=by omega
    have h4:=h.back
    rw [this] at h4
    have h5:it b 0 x=x:=rfl
    have h6:it b 1 x=i:=h2
    omega
  exact ⟨1,hn,by rw [h2]; exact hi⟩
 ·exact ⟨0,h.pos,by rw [h1]; exact hi⟩
end
section
variable {R C:Nat} {c p:List (List Int)} {b:Nat->Nat} {x n:Nat}
theorem zFr (h:Round (cw R (gt c)) (eTo R C (gt p) R) b x n):∀ m,(zA3 R p b x m = -1/\∀ k,k<m->¬it b k x<R) \/
 (1<=zA3 R p b x m/\(∀ k,k<m->it b k x<R->zA3 R p b x m<=gt p (it b k x) (b (it b k x) - R))/\∃ k,k<m/\it b k x<R/\zA3 R p b x m=gt p (it b k x) (b (it b k x) - R))
 | 0=>.inl ⟨rfl,fun k hk=>by omega⟩
 | m+1=>by
  have e:zA3 R p b x (m+1)=if it b m x<R then (if zA3 R p b x m<0\/gt p (it b m x) (b (it b m x) - R)<zA3 R p b x m then gt p (it b m x) (b (it b m x) - R) else zA3 R p b x m) else zA3 R p b x m:=rfl
  rw [e]
  rcases zDb h m with ⟨i,j,hi,hj,h1,h2⟩|⟨i,j,hi,hj,h0,h1,h2⟩
  ·rw [ae (by omega)]
   rcases zFr h m with ⟨k1,k2⟩|⟨k1,k2,k3⟩
   ·refine .inl ⟨k1,fun k hk=>?_⟩
    rcases ai k m with h3|h3
    ·exact k2 k h3
    ·obtain rfl:k=m:=by omega
     omega
   ·refine .inr ⟨k1,fun k hk hr=>?_,?_⟩
    ·rcases ai k m with h3|h3
     ·exact k2 k h3 hr
     ·obtain rfl:k=m:=by omega
      omega
    ·obtain ⟨k,g1,g2,g3⟩:=k3
     exact ⟨k,by omega,g2,g3⟩
  ·have h3:b (it b m x) - R=j:=by
    have:b (it b m x)=R+j:=h2
    omega
   rw [ah (by omega),h3,h1]
   have hmm:∀ k,k<m+1->k=m\/k<m:=fun k hk=>by omega
   rcases zFr h m with ⟨k1,k2⟩|⟨k1,k2,k3⟩
   ·rw [k1,ah (.inl (by omega))]
    refine .inr ⟨by omega,fun k hk hr=>?_,m,by omega,by omega,by rw [h3,h1]⟩
    rcases hmm k hk with rfl|h4
    ·rw [h3,h1]; exact bf _
    ·exact absurd hr (k2 k h4)
   ·by_cases hlt:gt p i j<zA3 R p b x m
    ·rw [ah (.inr hlt)]
     refine .inr ⟨by omega,fun k hk hr=>?_,m,by omega,by omega,by rw [h3,h1]⟩
     rcases hmm k hk with rfl|h4
     ·rw [h3,h1]; exact bf _
     ·have:=k2 k h4 hr; omega
    ·rw [ae (by omega)]
     refine .inr ⟨k1,fun k hk hr=>?_,?_⟩
     ·rcases hmm k hk with rfl|h4
      ·rw [h3,h1]; omega
      ·exact k2 k h4 hr
     ·obtain ⟨k,g1,g2,g3⟩:=k3
      exact ⟨k,by omega,g2,g3⟩
def ind (u v:Nat):Int:=if u=v then 1 else 0
structure Turned (R C:Nat) (c p:List (List Int)) (b:Nat->Nat) (x:Nat) (l:Int) (m:Nat) (q:List (List Int)):Prop where
 sz:Sz R C q
 row:∀ i,i<R->rowS C (gt q) i=rowS C (gt p) i+l*(ind (it b m x) i - ind x i)
 col:∀ j,j<C->colS R (gt q) j=colS R (gt p) j+l*(ind x (R+j) - ind (it b m x) (R+j))
 cost:cst R C (gt c) (gt q)=cst R C (gt c) (gt p)+l*sg m (fun k=>cw R (gt c) (it b (k+1) x) (it b k x))
 low:∀ i j,i<R->j<C->gt p i j - l<=gt q i j
 low2:∀ i j,i<R->j<C->(∀ k,k<m->it b k x=i->it b (k+1) x=R+j->False)->gt p i j<=gt q i j
 near:∀ i j,i<R->j<C->gt p i j - l*m<=gt q i j/\gt q i j<=gt p i j+l*m
theorem zSM (h:Round (cw R (gt c)) (eTo R C (gt p) R) b x n) (hsz:Sz R C p) {l:Int} (hl:0<=l):∀ m,m<=n->Turned R C c p b x l m (turnK R p b x l m)
 | 0,_=>by
  refine ⟨hsz,fun i _=>?_,fun j _=>?_,?_,fun i j _ _=>?_,fun i j _ _ _=>bf _,fun i j _ _=>?_⟩
  ·show rowS C (gt p) i=rowS C (gt p) i+l*(ind x i - ind x i)
   rw [Int.sub_self,bX]; omega
  ·show colS R (gt p) j=colS R (gt p) j+l*(ind x (R+j) - ind x (R+j))
   rw [Int.sub_self,bX]; omega
  ·show cst R C (gt c) (gt p)=cst R C (gt c) (gt p)+l*0
   rw [bX]; omega
  ·show gt p i j - l<=gt p i j; omega
  ·show gt p i j - l*((0:Nat):Int)<=gt p i j/\gt p i j<=gt p i j+l*((0:Nat):Int)
   rw [Int.natCast_zero,bX]; omega
 | m+1,hm=>by
  obtain ⟨t1,t2,t3,t4,t5,t6,t7⟩:=zSM h hsz hl m (by omega)
  have e:turnK R p b x l (m+1)=zKk R b l (it b m x) (turnK R p b x l m):=rfl
  have hlm:l*((m+1:Nat):Int)=l*m+l:=by rw [Int.natCast_add,c6]; omega
  rw [e]
  generalize turnK R p b x l m=q at t1 t2 t3 t4 t5 t6 t7 ⊢
  unfold zKk
  rcases zDb h m with ⟨i,j,hi,hj,h1,h2⟩|⟨i,j,hi,hj,h0,h1,h2⟩
  ·have hb:b (it b m x)=i:=h2
   rw [ae (by omega),hb,show it b m x - R=j by omega]
   have hg:=zCY (d:=l) t1 hi hj
   have hw:cw R (gt c) (it b (m+1) x) (it b m x)=gt c i j:=by
    unfold cw
    rw [h2,ah hi,h1,aT]
   refine ⟨t1.add hi,fun i' hi'=>?_,fun j' hj'=>?_,?_,fun i' j' hi' hj'=>?_,fun i' j' hi' hj' hno=>?_,fun i' j' hi' hj'=>?_⟩
   ·rw [hg,zDO _ hj,t2 i' hi',h1,h2]
    have z1:ind (R+j) i'=0:=ae (by omega)
    by_cases h3:i'=i
    ·have z2:ind i i'=1:=ah h3.symm
     rw [ah h3,z1,z2,cV,cV]; omega
    ·have z2:ind i i'=0:=ae (fun h=>h3 h.symm)
     rw [ae h3,z1,z2]; omega
   ·rw [hg,zDF _ hi,t3 j' hj',h1,h2]
    have z1:ind i (R+j')=0:=ae (by omega)
    by_cases h3:j'=j
    ·have z2:ind (R+j) (R+j')=1:=ah (by omega)
     rw [ah h3,z1,z2,cV,cV]; omega
    ·have z2:ind (R+j) (R+j')=0:=ae (by omega)
     rw [ae h3,z1,z2]; omega
   ·rw [hg,zFD _ _ hi hj,t4]
    simp only [sg]
    rw [hw,c6,bN l (gt c i j)]; omega
   ·rw [hg]
    have:=t5 i' j' hi' hj'
    unfold bump
    split<;>omega
   ·rw [hg]
    have:=t6 i' j' hi' hj' fun k hk=>hno k (by omega)
    unfold bump
    split<;>omega
   ·rw [hg,hlm]
    have:=t7 i' j' hi' hj'
    unfold bump
    split<;>omega
  ·have hb:b (it b m x)=R+j:=h2
   rw [ah (by omega),hb,show R+j - R=j by omega,h1]
   have hg:=zCY (d := -l) t1 hi hj
   have hw:cw R (gt c) (it b (m+1) x) (it b m x) = - gt c i j:=by
    unfold cw
    rw [h2,ae (by omega),h1,aT]
   refine ⟨t1.add hi,fun i' hi'=>?_,fun j' hj'=>?_,?_,fun i' j' hi' hj'=>?_,fun i' j' hi' hj' hno=>?_,fun i' j' hi' hj'=>?_⟩
   ·rw [hg,zDO _ hj,t2 i' hi',h1,h2]
    have z1:ind (R+j) i'=0:=ae (by omega)
    by_cases h3:i'=i
    ·have z2:ind i i'=1:=ah h3.symm
     rw [ah h3,z1,z2,cV,cV]; omega
    ·have z2:ind i i'=0:=ae (fun h=>h3 h.symm)
     rw [ae h3,z1,z2]; omega
   ·rw [hg,zDF _ hi,t3 j' hj',h1,h2]
    have z1:ind i (R+j')=0:=ae (by omega)
    by_cases h3:j'=j
    ·have z2:ind (R+j) (R+j')=1:=ah (by omega)
     rw [ah h3,z1,z2,cV,cV]; omega
    ·have z2:ind (R+j) (R+j')=0:=ae (by omega)
     rw [ae h3,z1,z2]; omega
   ·rw [hg,zFD _ _ hi hj,t4]
    simp only [sg]
    rw [hw,c6,Int.mul_neg,Int.mul_neg,bN l (gt c i j)]; omega
   ·rw [hg]
    unfold bump
    by_cases h3:i'=i/\j'=j
    ·obtain ⟨rfl,rfl⟩:=h3
     rw [ah ⟨rfl,rfl⟩]
     have:=t6 i' j' hi' hj' fun k hk e1 _=>h.inj hk (by omega) (by rw [e1,h1])
     omega
    ·rw [ae h3]
     have:=t5 i' j' hi' hj'
     omega
   ·rw [hg]
    have h4:=t6 i' j' hi' hj' fun k hk=>hno k (by omega)
    unfold bump
    rw [ae (fun h3=>hno m (by omega) (by rw [h1]; exact h3.1.symm) (by rw [h2,h3.2]))]
    omega
   ·rw [hg,hlm]
    have:=t7 i' j' hi' hj'
    unfold bump
    split<;>omega
end
theorem Pl.turn {a b:List Int} {c p:List (List Int)} (hp:Pl a b p) (hb:Bnd 0 200 b) {by':Nat->Nat} {x n:Nat} (h:Round (cw a.length (gt c)) (eTo a.length b.length (gt p) a.length) by' x n) :
 1<=zA3 a.length p by' x n/\zA3 a.length p by' x n<=200/\Pl a b (turnK a.length p by' x (zA3 a.length p by' x n) n)/\cst a.length b.length (gt c) (gt (turnK a.length p by' x (zA3 a.length p by' x n) n))<cst a.length b.length (gt c) (gt p):=by
 obtain ⟨m0,hm0,hr0⟩:=zVI h
 rcases zFr h n with ⟨_,k2⟩|⟨k1,k2,k3⟩
 ·exact absurd hr0 (k2 m0 hm0)
 ·have h200:zA3 a.length p by' x n<=200:=by
   obtain ⟨k,g1,g2,g3⟩:=k3
   rcases zDb h k with ⟨i,j,hi,hj,h1,h2⟩|⟨i,j,hi,hj,h0,h1,h2⟩
   ·omega
   ·have e1:by' (it by' k x) - a.length=j:=by
     have:by' (it by' k x)=a.length+j:=h2
     omega
    rw [g3,e1,h1]
    exact (hp.tab.at' i j hi hj).2
  generalize hl:zA3 a.length p by' x n=l at k1 k2 k3 h200 ⊢
  obtain ⟨t1,t2,t3,t4,t5,t6,t7⟩:=zSM h hp.tab.sz (l:=l) (by omega) n (ap _)
  have hrow:∀ i,i<a.length->rowS b.length (gt (turnK a.length p by' x l n)) i=ga a i:=fun i hi=>by
   rw [t2 i hi,h.back,Int.sub_self,bX,hp.plan.row i hi]; omega
  have hcol:∀ j,j<b.length->colS a.length (gt (turnK a.length p by' x l n)) j=ga b j:=fun j hj=>by
   rw [t3 j hj,h.back,Int.sub_self,bX,hp.plan.col j hj]; omega
  have hnn:∀ i j,i<a.length->j<b.length->0<=gt (turnK a.length p by' x l n) i j:=fun i j hi hj=>by
   by_cases hu:∃ k,k<n/\it by' k x=i/\it by' (k+1) x=a.length+j
   ·obtain ⟨k,e1,e2,e3⟩:=hu
    have e4:=k2 k e1 (by omega)
    have e5:by' (it by' k x) - a.length=j:=by
     have:by' (it by' k x)=a.length+j:=e3
     omega
    rw [e5,e2] at e4
    have:=t5 i j hi hj
    omega
   ·have:=t6 i j hi hj fun k e1 e2 e3=>hu ⟨k,e1,e2,e3⟩
    have:=hp.plan.nn i j hi hj
    omega
  refine ⟨k1,h200,⟨⟨t1.rows,t1.cols,fun i j hi hj=>⟨hnn i j hi hj,?_⟩⟩,hnn,hrow,hcol⟩,?_⟩
  ·have h5:=sg_at a.length (f:=fun i=>gt (turnK a.length p by' x l n) i j) (fun i hi=>hnn i j hi hj) i hi
   have h6:sg a.length (fun i=>gt (turnK a.length p by' x l n) i j)=ga b j:=hcol j hj
   have h7:=(hb.at hj).2
   have h8:gt (turnK a.length p by' x l n) i j<=ga b j:=by rw [<-h6]; exact h5
   unfold ga at h8
   unfold gt at h8
   omega
  ·rw [t4]
   have:=h.neg
   have:l*sg n (fun k=>cw a.length (gt c) (it by' (k+1) x) (it by' k x))<=1*sg n (fun k=>cw a.length (gt c) (it by' (k+1) x) (it by' k x)):=Int.mul_le_mul_of_nonpos_right k1 (by omega)
   omega
end Go.LC
namespace Go.LC
open Go.OT
theorem zJS {f g:Nat->Nat} {N:Nat} (h:∀ v,v<N->f v=g v/\g v<N) {x:Nat} (hx:x<N):∀ k,it f k x=it g k x/\it g k x<N
 | 0=>⟨rfl,hx⟩
 | k+1=>by
  obtain ⟨h1,h2⟩:=zJS h hx k
  show f (it f k x)=g (it g k x)/\g (it g k x)<N
  rw [h1]
  exact h _ h2
theorem Round.congr {w:Nat->Nat->Int} {es:List (Nat×Nat)} {f g:Nat->Nat} {x p:Nat} (h:Round w es g x p) (he:∀ k,it f k x=it g k x):Round w es f x p :=
 ⟨h.pos,by rw [he]; exact h.back,fun k a b=>by rw [he]; exact h.first k a b,fun m=>by rw [he,he]; exact h.edge m,by
  rw [zAm p fun k _=>by rw [he,he]]; exact h.neg⟩
theorem zTA {w:Nat->Nat->Int} {es:List (Nat×Nat)} (hne:∀ e∈es,e.1≠e.2) {n v:Nat} (hn:1<=n) (hl:(sws w es start n).last=(v:Int)):∃ u,(u,v)∈es:=by
 obtain ⟨h1,_⟩:=swept (w:=w) hne n
 rcases h1.lst hn with ⟨h,_⟩|⟨v',h,h'⟩
 ·rw [h] at hl; omega
 ·have:v'=v:=by omega
  subst this
  exact ⟨_,(h1.prd v' (by omega)).1⟩
section
variable {a b:List Int} {c p:List (List Int)}
theorem zEP (hq:MQ a b c) (hp:Pl a b p) :
 ((lwN c p (a.length+b.length)).last<0->Holds a.length b.length (gt c) (fun i => - (lwN c p (a.length+b.length)).far.getD i 0) (fun j=>(lwN c p (a.length+b.length)).far.getD (a.length+j) 0) /\
   Tight a.length b.length (gt c) (gt p) (fun i => - (lwN c p (a.length+b.length)).far.getD i 0) (fun j=>(lwN c p (a.length+b.length)).far.getD (a.length+j) 0)) /\
 (¬(lwN c p (a.length+b.length)).last<0->(lwN c p (a.length+b.length)).last.toNat<a.length+b.length/\rx c p (a.length+b.length)<a.length+b.length /\
  Round (cw a.length (gt c)) (eTo a.length b.length (gt p) a.length) (byF (lwN c p (a.length+b.length)).by') (rx c p (a.length+b.length)) (rp c p (a.length+b.length))):=by
 have ha:=hq.a5
 have hb:=hq.b5
 have sim:=zFt (q:=p) hq.hc ha hb.2 (a.length+b.length)
 have hL:lwN c p (a.length+b.length)=lwK c p (a.length+b.length) (a.length+b.length):=rfl
 have hrx:rx c p (a.length+b.length)=it (byF (lwK c p (a.length+b.length) (a.length+b.length)).by') (a.length+b.length) (lwK c p (a.length+b.length) (a.length+b.length)).last.toNat:=rfl
 have hrp:rp c p (a.length+b.length)=zFT (byF (lwK c p (a.length+b.length) (a.length+b.length)).by') (a.length+b.length) (rx c p (a.length+b.length)):=rfl
 rw [hL]
 generalize lwK c p (a.length+b.length) (a.length+b.length)=s at sim hrx hrp ⊢
 have hlast:=sim.last
 refine ⟨fun hneg=>?_,fun hpos=>?_⟩
 ·rcases zIT (w:=cw a.length (gt c)) (es:=eTo a.length b.length (gt p) a.length) e_ne (n:=a.length+b.length) (by omega) with h1|⟨v,h1⟩
  ·have rest:=zVb e_ne (by omega) h1
   refine ⟨fun i j hi hj=>?_,fun i j hi hj h0=>?_⟩
   ·have h2:=rest (i,a.length+j) (mem_e.2 ⟨i,j,hi,hj,.inl rfl⟩)
    dsimp only at h2
    rw [<-sim.d _ (by omega),<-sim.d _ (by omega)] at h2
    unfold cw at h2
    rw [ah hi,aT] at h2
    dsimp only
    omega
   ·have h2:=rest (i,a.length+j) (mem_e.2 ⟨i,j,hi,hj,.inl rfl⟩)
    have h3:=rest (a.length+j,i) (mem_e.2 ⟨i,j,hi,hj,.inr ⟨h0,rfl⟩⟩)
    dsimp only at h2 h3
    rw [<-sim.d _ (by omega),<-sim.d _ (by omega)] at h2 h3
    unfold cw at h2 h3
    rw [ah hi,aT] at h2
    rw [ae (by omega),aT] at h3
    dsimp only
    omega
  ·rw [hlast,h1] at hneg; omega
 ·rcases zIT (w:=cw a.length (gt c)) (es:=eTo a.length b.length (gt p) a.length) e_ne (n:=a.length+b.length) (by omega) with h1|⟨v,h1⟩
  ·rw [hlast,h1] at hpos; omega
  ·have hr:=zUm (w:=cw a.length (gt c)) (es:=eTo a.length b.length (gt p) a.length) e_ne e_lt (ap _) (by omega) h1
   obtain ⟨u,hu⟩:=zTA (w:=cw a.length (gt c)) e_ne (by omega) h1
   have hvN:=(e_lt _ hu).2
   dsimp only at hvN
   have hv:s.last.toNat=v:=by rw [hlast,h1]; rfl
   rw [hv] at hrx
   generalize sws (cw a.length (gt c)) (eTo a.length b.length (gt p) a.length) start (a.length+b.length)=g at sim hr h1 hlast
   have hby:∀ u,u<a.length+b.length->byF s.by' u=g.b u/\g.b u<a.length+b.length:=fun u hu=>⟨by unfold byF; rw [sim.b u hu]; rfl,sim.bl u hu⟩
   have hxN:it g.b (a.length+b.length) v<a.length+b.length:=(e_lt _ (hr.edge 0)).2
   have hx:rx c p (a.length+b.length)=it g.b (a.length+b.length) v:=by rw [hrx]; exact (zJS hby hvN _).1
   have hit:∀ k,it (byF s.by') k (it g.b (a.length+b.length) v)=it g.b k (it g.b (a.length+b.length) v):=fun k=>(zJS hby hxN k).1
   have hpp:rp c p (a.length+b.length)=zFT g.b (a.length+b.length) (it g.b (a.length+b.length) v):=by
    rw [hrp,hx]
    unfold zFT
    congr 1
    funext k
    rw [hit k]
   rw [hpp,hx,hv]
   exact ⟨hvN,hxN,hr.congr hit⟩
end
def zF1 (c:List (List Int)) (N:Nat):Nat->List (List Int)->List (List Int)
 | 0,p=>p
 | n+1,p=>if (lwN c p N).last<0 then p else zF1 c N n (impV c p N)
def costN (R C:Nat) (c p:List (List Int)):Nat:=(cst R C (gt c) (gt p)).toNat
def zDQ (a b:List Int) (c:List (List Int)):List (List Int):=zF1 c (a.length+b.length) (costN a.length b.length c (cornV a b)+1) (cornV a b)
def zGU (a b:List Int) (c:List (List Int)):List Int:=(lwN c (zDQ a b c) (a.length+b.length)).far
section
variable {a b:List Int} {c p:List (List Int)}
theorem zWT (hq:MQ a b c) (hp:Pl a b p):0<=cst a.length b.length (gt c) (gt p) :=
 zCM _ fun i hi=>zCM _ fun j hj=>Int.mul_nonneg (hq.hc.at' i j hi hj).1 (hp.plan.nn i j hi hj)
theorem zGE (hq:MQ a b c) (hp:Pl a b p) (h:¬(lwN c p (a.length+b.length)).last<0):Pl a b (impV c p (a.length+b.length))/\costN a.length b.length c (impV c p (a.length+b.length))<costN a.length b.length c p/\1<=rl c p (a.length+b.length)/\rl c p (a.length+b.length)<=200:=by
 obtain ⟨_,_,h3⟩:=(zEP hq hp).2 h
 obtain ⟨k1,k2,k3,k4⟩:=hp.turn hq.hb h3
 have e1:rl c p (a.length+b.length)=zA3 a.length p (byF (lwN c p (a.length+b.length)).by') (rx c p (a.length+b.length)) (rp c p (a.length+b.length)):=by
  unfold rl
  rw [hq.hc.rows]
 have e2:impV c p (a.length+b.length)=turnK a.length p (byF (lwN c p (a.length+b.length)).by') (rx c p (a.length+b.length)) (rl c p (a.length+b.length)) (rp c p (a.length+b.length)):=by
  unfold impV
  rw [hq.hc.rows]
 rw [e1] at e2
 rw [e2,e1]
 have:=zWT hq k3
 exact ⟨k3,by unfold costN; omega,k1,k2⟩
theorem zLC (hq:MQ a b c):∀ (n:Nat) (p:List (List Int)),Pl a b p->costN a.length b.length c p<n->Pl a b (zF1 c (a.length+b.length) n p)/\(lwN c (zF1 c (a.length+b.length) n p) (a.length+b.length)).last<0
 | 0,p,_,h=>absurd h (bE _)
 | n+1,p,hp,h=>by
  by_cases hl:(lwN c p (a.length+b.length)).last<0
  ·have e:zF1 c (a.length+b.length) (n+1) p=p:=ah hl
   rw [e]
   exact ⟨hp,hl⟩
  ·have e:zF1 c (a.length+b.length) (n+1) p=zF1 c (a.length+b.length) n (impV c p (a.length+b.length)):=ae hl
   obtain ⟨k1,k2,_⟩:=zGE hq hp hl
   rw [e]
   exact zLC hq n _ k1 (by omega)
theorem zOq (hq:MQ a b c):Pl a b (zDQ a b c)/\Holds a.length b.length (gt c) (fun i => - (zGU a b c).getD i 0) (fun j=>(zGU a b c).getD (a.length+j) 0) /\
 Tight a.length b.length (gt c) (gt (zDQ a b c)) (fun i => - (zGU a b c).getD i 0) (fun j=>(zGU a b c).getD (a.length+j) 0):=by
 obtain ⟨h1,h2⟩:=zLC hq _ _ hq.corner (bT _)
 obtain ⟨h3,h4⟩:=(zEP hq h1).1 h2
 exact ⟨h1,h3,h4⟩
end
end Go.LC
namespace Go.OT
open Go.BF
structure PS where
 r:List Int
 k:List Int
def prC (c:Int) (i j:Nat) (s:PS):PS:={s with k:=s.k.set j (min (s.k.getD j 0) (c - s.r.getD i 0))}
def prR (c n:Int) (i j:Nat) (s:PS):PS:=if 0<n then {s with r:=s.r.set i (max (s.r.getD i 0) (c - s.k.getD j 0))} else s
def pr2 (c p:List (List Int)) (i j:Nat) (s:PS):PS:=prR ((c.getD i []).getD j 0) ((p.getD i []).getD j 0) i j (prC ((c.getD i []).getD j 0) i j s)
def prRow (c p:List (List Int)) (i:Nat) (s:PS):PS:=upto (pr2 c p i) (c.getD i []).length s
def prAll (c p:List (List Int)) (s:PS):PS:=upto (prRow c p) c.length s
def prK (c p:List (List Int)) (R C k:Nat):PS:=upto (fun _=>prAll c p) k ⟨List.replicate R 0,List.replicate C 0⟩
structure PSt (R C:Nat) (m:Int) (s:PS) (g:St):Prop where
 l1:s.r.length=R
 l2:s.k.length=C
 b1:∀ i,i<R->0<=s.r.getD i 0/\s.r.getD i 0<=99*m
 b2:∀ j,j<C -> -99*m<=s.k.getD j 0/\s.k.getD j 0<=0
 d1:∀ i,i<R->g.d i = - s.r.getD i 0
 d2:∀ j,j<C->g.d (R+j)=s.k.getD j 0
section
variable {R C:Nat} {m:Int} {s:PS} {g:St}
theorem PSt.mono {m':Int} (h:PSt R C m s g) (hm:m<=m'):PSt R C m' s g:=⟨h.l1,h.l2,fun i hi=>by have:=h.b1 i hi; omega,fun j hj=>by have:=h.b2 j hj; omega,h.d1,h.d2⟩
theorem PSt.prC (h:PSt R C m s g) {c:Int} {i j:Nat} (hi:i<R) (hj:j<C) (hc:0<=c/\c<=99):PSt R C (m+1) (prC c i j s) (rlx 1 g ⟨i,R+j,c⟩):=by
 have e1:=h.d1 i hi
 have e2:=h.d2 j hj
 have k1:=h.b1 i hi
 have k2:=h.b2 j hj
 have hk:∀ x,(Go.OT.prC c i j s).k.getD x 0=if x=j then min (s.k.getD j 0) (c - s.r.getD i 0) else s.k.getD x 0:=fun x=>zBj (by rw [h.l2]; exact hj) _ _
 have hr:∀ x,(Go.OT.prC c i j s).r.getD x 0=s.r.getD x 0:=fun x=>rfl
 have hd:∀ x,(rlx 1 g ⟨i,R+j,c⟩).d x=if x=R+j then min (g.d (R+j)) (g.d i+c) else g.d x:=fun x=>by
  unfold rlx
  dsimp only
  by_cases hlt:g.d i<1/\g.d i+c<g.d (R+j)
  ·rw [ah hlt]
   show (if x=R+j then _ else _)=_
   by_cases hx:x=R+j
   ·rw [ah hx,ah hx]; omega
   ·rw [ae hx,ae hx]
  ·rw [ae hlt]
   by_cases hx:x=R+j
   ·rw [ah hx,hx]; omega
   ·rw [ae hx]
 refine ⟨h.l1,by simp [Go.OT.prC,h.l2],fun x hx=>?_,fun x hx=>?_,fun x hx=>?_,fun x hx=>?_⟩
 ·rw [hr]; have:=h.b1 x hx; omega
 ·rw [hk]; have:=h.b2 x hx; split<;>omega
 ·rw [hd,hr,ae (by omega)]; exact h.d1 x hx
 ·rw [hd,hk]
  by_cases hxj:x=j
  ·subst hxj
   rw [ah rfl,ah rfl]; omega
  ·rw [ae (by omega),ae hxj]; exact h.d2 x hx
theorem PSt.prR (h:PSt R C m s g) {c:Int} {i j:Nat} (hi:i<R) (hj:j<C) (hc:0<=c/\c<=99) (n:Int):PSt R C (m+1) (prR c n i j s) (if 0<n then rlx 1 g ⟨R+j,i,- c⟩ else g):=by
 by_cases hn:0<n
 ·have e1:=h.d1 i hi
  have e2:=h.d2 j hj
  have k1:=h.b1 i hi
  have k2:=h.b2 j hj
  have ep:Go.OT.prR c n i j s={s with r:=s.r.set i (max (s.r.getD i 0) (c - s.k.getD j 0))}:=ah hn
  rw [ep,ah hn]
  have hr:∀ x,(s.r.set i (max (s.r.getD i 0) (c - s.k.getD j 0))).getD x 0=if x=i then max (s.r.getD i 0) (c - s.k.getD j 0) else s.r.getD x 0:=fun x=>zBj (by rw [h.l1]; exact hi) _ _
  have hd:∀ x,(rlx 1 g ⟨R+j,i,- c⟩).d x=if x=i then min (g.d i) (g.d (R+j) - c) else g.d x:=fun x=>by
   unfold rlx
   dsimp only
   by_cases hlt:g.d (R+j)<1/\g.d (R+j) + -c<g.d i
   ·rw [ah hlt]
    show (if x=i then _ else _)=_
    by_cases hx:x=i
    ·rw [ah hx,ah hx]; omega
    ·rw [ae hx,ae hx]
   ·rw [ae hlt]
    by_cases hx:x=i
    ·rw [ah hx,hx]; omega
    ·rw [ae hx]
  refine ⟨by simp [h.l1],h.l2,fun x hx=>?_,fun x hx=>?_,fun x hx=>?_,fun x hx=>?_⟩
  ·dsimp only
   rw [hr]; have:=h.b1 x hx; split<;>omega
  ·have:=h.b2 x hx; dsimp only; omega
  ·dsimp only
   rw [hd,hr]
   by_cases hxi:x=i
   ·subst hxi
    rw [ah rfl,ah rfl]; omega
   ·rw [ae hxi,ae hxi]; exact h.d1 x hx
  ·rw [hd,ae (by omega)]; exact h.d2 x hx
 ·have ep:Go.OT.prR c n i j s=s:=ae hn
  rw [ep,ae hn]
  exact h.mono (by omega)
variable {c p:List (List Int)}
theorem PSt.step (hc:Tb R C 0 99 c) (h:PSt R C m s g) {i j:Nat} (hi:i<R) (hj:j<C):PSt R C (m+2) (pr2 c p i j s) ((zEq R (gt c) (gt p) i j).foldl (rlx 1) g):=by
 have h1:=h.prC hi hj (hc.at' i j hi hj)
 have h2:=h1.prR hi hj (hc.at' i j hi hj) (gt p i j)
 unfold pr2 zEq
 rw [List.foldl_cons]
 have e:(if 0<gt p i j then [(⟨R+j,i,- gt c i j⟩:Ed)] else []).foldl (rlx 1) (rlx 1 g ⟨i,R+j,gt c i j⟩)=if 0<gt p i j then rlx 1 (rlx 1 g ⟨i,R+j,gt c i j⟩) ⟨R+j,i,- gt c i j⟩ else rlx 1 g ⟨i,R+j,gt c i j⟩:=by
  by_cases h0:0<gt p i j
  ·rw [ah h0,ah h0]; rfl
  ·rw [ae h0,ae h0]; rfl
 rw [e]
 exact h2.mono (by omega)
theorem PSt.row (hc:Tb R C 0 99 c) (h:PSt R C m s g) {i:Nat} (hi:i<R):∀ j,j<=C->PSt R C (m+2*j) (upto (pr2 c p i) j s) ((zCl R (gt c) (gt p) i j).foldl (rlx 1) g)
 | 0,_=>h.mono (by omega)
 | j+1,hj=>by
  have h1:=(PSt.row hc h hi j (by omega)).step (p:=p) hc hi (j:=j) (by omega)
  show PSt R C _ (pr2 c p i j (upto (pr2 c p i) j s)) ((zCl R (gt c) (gt p) i j++zEq R (gt c) (gt p) i j).foldl _ _)
  rw [cq]
  exact h1.mono (by omega)
theorem PSt.tab (hc:Tb R C 0 99 c) (hC:C<=6) (h:PSt R C m s g):∀ i,i<=R->PSt R C (m+12*i) (upto (prRow c p) i s) ((zBl R C (gt c) (gt p) i).foldl (rlx 1) g)
 | 0,_=>h.mono (by omega)
 | i+1,hi=>by
  have h1:=(PSt.tab hc hC h i (by omega)).row (p:=p) hc (i:=i) (by omega) C (ap _)
  show PSt R C _ (upto (pr2 c p i) (c.getD i []).length (upto (prRow c p) i s)) ((zBl R C (gt c) (gt p) i++zCl R (gt c) (gt p) i C).foldl _ _)
  rw [cq,hc.cols i (by omega)]
  exact h1.mono (by omega)
def st0:St:=⟨fun _=>0,fun _=>0⟩
theorem zOi (hc:Tb R C 0 99 c) (hR:R<=6) (hC:C<=6):∀ k:Nat,PSt R C (72*(k:Int)) (prK c p R C k) (sweeps 1 (zBl R C (gt c) (gt p) R) k st0)
 | 0=>by
  have e:∀ n v,(List.replicate n (0:Int)).getD v 0=0:=fun n v=>by
   rw [ab,bz]; split<;>rfl
  have e1:∀ v,(prK c p R C 0).r.getD v 0=0:=fun v=>e R v
  have e2:∀ v,(prK c p R C 0).k.getD v 0=0:=fun v=>e C v
  exact ⟨by simp [prK,upto],by simp [prK,upto],fun v _=>by rw [e1]; omega,fun v _=>by rw [e2]; omega,fun v _=>by rw [e1]; rfl,fun v _=>by rw [e2]; rfl⟩
 | k+1=>by
  have h1:=PSt.tab (p:=p) hc hC (zOi hc hR hC k) R (ap _)
  show PSt R C _ (upto (prRow c p) c.length (prK c p R C k)) _
  rw [hc.rows]
  exact h1.mono (by omega)
theorem zXW (hc:Tb R C 0 99 c) (hR:R<=6) (hC:C<=6) {r t:Nat->Int} (h1:Holds R C (gt c) (fun i => - r i) t) (h2:Tight R C (gt c) (gt p) (fun i => - r i) t) (hr:∀ i,i<R->0<=r i/\r i<=99) (ht:∀ j,j<C->0<=t j/\t j<=99) :
 Holds R C (gt c) (fun i=>(prK c p R C (R+C)).r.getD i 0) (fun j=>(prK c p R C (R+C)).k.getD j 0)/\Tight R C (gt c) (gt p) (fun i=>(prK c p R C (R+C)).r.getD i 0) (fun j=>(prK c p R C (R+C)).k.getD j 0) /\
 (∀ i,i<R->0<=(prK c p R C (R+C)).r.getD i 0/\(prK c p R C (R+C)).r.getD i 0<=99)/\(∀ j,j<C -> -99<=(prK c p R C (R+C)).k.getD j 0/\(prK c p R C (R+C)).k.getD j 0<=0):=by
 have hs:=zOi (p:=p) hc hR hC (R+C)
 let pot:Nat->Int:=fun v=>if v<R then r v - 99 else if v<R+C then t (v - R) - 99 else -99
 have potR:∀ i,i<R->pot i=r i - 99:=fun i hi=>ah hi
 have potC:∀ j,j<C->pot (R+j)=t j - 99:=fun j hj=>by
  show (if _ then _ else if _ then _ else _)=_
  rw [ae (by omega),ah (by omega),aT]
 have hpot:∀ e∈zBl R C (gt c) (gt p) R,pot e.v<=pot e.u+e.c:=fun e he=>by
  obtain ⟨i,j,hi,hj,h|⟨h0,h⟩⟩:=zBt.1 he
  ·subst h
   dsimp only
   rw [potR i hi,potC j hj]
   have:=h1 i j hi hj
   dsimp only at this
   omega
  ·subst h
   dsimp only
   rw [potR i hi,potC j hj]
   have:=h2 i j hi hj h0
   dsimp only at this
   omega
 have hN:∀ e∈zBl R C (gt c) (gt p) R,e.u<R+C/\e.v<R+C:=fun e he=>by
  obtain ⟨i,j,hi,hj,h|⟨h0,h⟩⟩:=zBt.1 he<;>subst h<;>dsimp only<;>omega
 have rest:=zHW (F:=1) st0 hpot hN
 have low:=zGl (F:=1) (s:=st0) hpot (fun v=>by
  show (if v<R then r v - 99 else if v<R+C then t (v - R) - 99 else -99)<=0
  split
  ·rename_i h; have:=hr v h; omega
  ·split
   ·rename_i h h'; have:=ht (v - R) (by omega); omega
   ·omega) (R+C)
 generalize prK c p R C (R+C)=s at hs ⊢
 generalize sweeps 1 (zBl R C (gt c) (gt p) R) (R+C) st0=g at hs rest low
 refine ⟨fun i j hi hj=>?_,fun i j hi hj h0=>?_,fun i hi=>?_,fun j hj=>?_⟩
 ·have k1:=rest ⟨i,R+j,gt c i j⟩ (zBt.2 ⟨i,j,hi,hj,.inl rfl⟩)
  have k2:=hs.b1 i hi
  dsimp only at k1 ⊢
  rw [hs.d1 i hi,hs.d2 j hj] at k1
  have:=k1 (by omega)
  omega
 ·have k1:=rest ⟨i,R+j,gt c i j⟩ (zBt.2 ⟨i,j,hi,hj,.inl rfl⟩)
  have k3:=rest ⟨R+j,i,- gt c i j⟩ (zBt.2 ⟨i,j,hi,hj,.inr ⟨h0,rfl⟩⟩)
  have k2:=hs.b1 i hi
  have k4:=hs.b2 j hj
  dsimp only at k1 k3 ⊢
  rw [hs.d1 i hi,hs.d2 j hj] at k1 k3
  have:=k1 (by omega)
  have:=k3 (by omega)
  omega
 ·have k1:=low i
  have k2:=hs.b1 i hi
  have:=hr i hi
  rw [potR i hi,hs.d1 i hi] at k1
  omega
 ·have k1:=low (R+j)
  have k2:=hs.b2 j hj
  have:=ht j hj
  rw [potC j hj,hs.d2 j hj] at k1
  omega
end
end Go.OT
