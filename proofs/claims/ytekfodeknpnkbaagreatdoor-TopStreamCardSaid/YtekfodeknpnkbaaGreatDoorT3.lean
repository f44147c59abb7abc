import Derived.Test.YtekfodeknpnkbaaGreatDoorT2
import Derived.Tactics
import Derived.StillTail
import Derived.Deep.LoopGhost
set_option linter.unusedSimpArgs false
set_option linter.unusedVariables false
namespace Go.VS
open Go.RowKit
section
variable {C:Ctx} {E:Know} {γ:Gam} {s:AS} {a:Act} {w:World}
theorem zJQ {P:Program} {f:FuncId} (hc:zBf P f) {ρ:Operand→Value} {x:Operand} {pre caps:Array Value} (hx:ρ x=.func (.func f) pre caps) (args:Array Operand) (ats:Array TypeId) (d:Option Tmp) (ty:TypeId) (pos:String) (af:Array Edge) (gd:Option (Nat×Bool)) (w:World) :
 (execOp ρ ⟨d,.call {callee:=.value x,args:=args,argTypes:=ats},ty,pos,af,gd⟩).run P w=.ok (.enter f (pre++args.map ρ++caps)) w:=by
 obtain ⟨fn,h1,h2,h3⟩:=hc
 have h2':fn.name ≠ "runtime.NumGoroutine":=by simpa using h2
 have h3':fn.body≠none:=fun e=>by rw [e] at h3; simp at h3
 simp only [execOp,resolve,hx,Deferred.ofValue]
 simp [invoke,callFunc,h1,h2',h3']
theorem zDM {P:Program} {f:FuncId} (hc:zBf P f) {ρ:Operand→Value} {x:Operand} {caps:Array Value} (hx:ρ x=.func (.func f) #[] caps) (args:Array Operand) (ats:Array TypeId) (d:Option Tmp) (ty:TypeId) (pos:String) (af:Array Edge) (gd:Option (Nat×Bool)) (w:World) :
 (execOp ρ ⟨d,.call {callee:=.value x,args:=args,argTypes:=ats},ty,pos,af,gd⟩).run P w=.ok (.enter f (args.map ρ++caps)) w:=by
 rw [zJQ hc hx,Array.empty_append]
theorem zAq {Z Z':Nat→Prop} (h:∀ b,Z b→Z' b) {sh:Sh} {x:sh.T} {v:Value} (hv:vrep w Z sh x v):vrep w Z' sh x v :=
 let ⟨cs,h1,h2⟩:=hv
 ⟨cs,zAx (Nat.le_refl _) (fun b _ hz=>⟨h b hz,rfl⟩) sh x cs h1,h2⟩
theorem zCq {Z Z':Nat→Prop} {sh:Sh} (hf:sh.flat=true) {x:sh.T} {v:Value} (hv:vrep w Z sh x v):vrep w Z' sh x v :=
 let ⟨cs,h1,h2⟩:=hv
 ⟨cs,(zBt sh x cs hf).2 ((zBt sh x cs hf).1 h1),h2⟩
theorem zKE (h:Rel C γ s a w) {b:BV} {v:Value} {sh:Sh} {x:sh.T} (hv:bvRep C γ w b v) (hb:zE1 s sh b=some x) {Z:Nat→Prop} (hZ:(∀ g,Z g)∨(zAN (.one b)=true∧∀ g,C.zn γ g→Z g)):vrep w Z sh x v:=by
 have hsub:∀ g,C.zn γ g→Z g:=fun g hg=>hZ.elim (fun h=>h g) (fun h=>h.2 g hg)
 unfold zE1 at hb
 split at hb
 ·obtain ⟨rfl,rfl⟩:=zBm hb
  exact zAq hsub hv
 ·split at hb
  ·simp only [Option.some.injEq] at hb
   subst hb
   simp only [bvRep] at hv
   exact ⟨[v],⟨none,0,by rw [hv]; rfl,Nat.le_refl _,Nat.zero_le _,fun i hi=>by simp at hi⟩,rfl⟩
  ·cases hb
 ·split at hb
  ·simp only [Option.some.injEq] at hb
   subst hb
   simp only [bvRep] at hv
   exact ⟨_,rfl,by rw [hv]; rfl⟩
  ·cases hb
 ·rename_i r
  have hz:∀ g,Z g:=hZ.elim id (fun h=>by simp [zAN] at h)
  simp only [bvRep] at hv
  split at hb
  ·rename_i e a' xs hr
   obtain ⟨rfl,rfl⟩:=zBm hb
   obtain ⟨hf,h1,h2⟩:=h.roots r _ hr
   exact ⟨[v],by rw [hv]; exact zBk hf h1 (fun g _=>hz g),rfl⟩
  ·rename_i e e2 a' xss hr
   obtain ⟨rfl,rfl⟩:=zBm hb
   obtain ⟨hf,h1,h2,h3⟩:=h.roots r _ hr
   exact ⟨[v],by rw [hv]; exact zGi hf h1 (fun g _=>hz g) (fun i xs hi=>⟨(h3 i xs hi).1,fun g _=>hz g⟩),rfl⟩
  ·cases hb
 ·rename_i r i
  have hz:∀ g,Z g:=hZ.elim id (fun h=>by simp [zAN] at h)
  simp only [bvRep] at hv
  split at hb
  ·rename_i e e2 a' xss hr
   split at hb
   ·rename_i hi
    obtain ⟨rfl,rfl⟩:=zBm hb
    obtain ⟨hf,h1,h2,h3⟩:=h.roots r _ hr
    have hgi:xss.getD i []=xss[i]:=by simp [List.getD_eq_getElem?_getD,hi]
    obtain ⟨k1,k2⟩:=h3 i xss[i] (by simp [hi])
    refine ⟨[v],?_,rfl⟩
    rw [hv]
    show pers w Z (.sl a') (xss.getD i []) [γ.rows r i]
    rw [hgi]
    exact zBk hf k1 (fun g _=>hz g)
   ·cases hb
  ·cases hb
 ·cases hb
theorem zF1 (h:Rel C γ s a w) {b:SV} {v:Value} {sh:Sh} {x:sh.T} (hv:svRep C γ w b v) (hb:zDW s sh b=some x) {Z:Nat→Prop} (hZ:(∀ g,Z g)∨(zAN b=true∧∀ g,C.zn γ g→Z g)):vrep w Z sh x v:=by
 unfold zDW at hb
 split at hb
 ·exact zKE h hv hb hZ
 ·cases hb
theorem zJm (h:Rel C γ s a w) {b:SV} {v:Value} {sh:Sh} {x:sh.T} (hv:svRep C γ w b v) (hb:zEV s sh b=some x) {Z:Nat→Prop} (hZ:(∀ g,Z g)∨(zAN b=true∧∀ g,C.zn γ g→Z g)):zXq w Z sh x v:=by
 have hsub:∀ g,C.zn γ g→Z g:=fun g hg=>hZ.elim (fun h=>h g) (fun h=>h.2 g hg)
 unfold zEV at hb
 split at hb
 ·obtain ⟨rfl,rfl⟩:=zBm hb
  obtain ⟨b,off,cs,h1,h2,h3,h4,h5⟩:=hv
  exact ⟨b,off,cs,h1,hsub b h2,h3,zAx (Nat.le_refl _) (fun b _ hz=>⟨hsub b hz,rfl⟩) _ _ cs h4,h5⟩
 ·rename_i b
  have hz:∀ g,Z g:=hZ.elim id (fun h=>by simp [zAN] at h)
  simp only [svRep,bvRep] at hv
  split at hb
  ·rename_i bv hbx
   obtain ⟨cs,t,d1,⟨v',d2,d2'⟩,d3,d4,d5⟩:=h.boxes b _ hbx
   obtain ⟨cs',k1,k2⟩:=zKE h d2 hb (Z:=Z) (.inl hz)
   refine ⟨γ.bx b,0,cs',hv,hz _,h.ownlt _ _ d4,k1,fun j c hj=>?_⟩
   rw [Nat.zero_add,cell_of_row w _ j cs t (0,0) d1]
   rw [k2,zA7 sh x cs' k1] at d2'
   rw [←d2'] at hj
   simpa using hj
  ·cases hb
 ·cases hb
theorem zEW (h:Rel C γ s a w) {Z:Nat→Prop}:∀ (as_:List Sh) (svs:List SV) (vs:List Value) (x:TupT as_),zCK s as_ svs=some x→svs.length=vs.length →
 (∀ (i:Nat) (sv:SV) (v:Value),svs[i]?=some sv→vs[i]?=some v→svRep C γ w sv v)→((∀ g,Z g)∨(svs.all zAN=true∧∀ g,C.zn γ g→Z g))→zDj w Z as_ x vs
 | [],[],[],_,_,_,_,_=>rfl
 | [],[],_::_,_,_,hl,_,_=>by simp at hl
 | [],_::_,_,_,hb,_,_,_=>by simp [zCK] at hb
 | _::_,[],_,_,hb,_,_,_=>by simp [zCK] at hb
 | _::_,_::_,[],_,_,hl,_,_=>by simp at hl
 | sh::as_,sv::svs,v::vs,x,hb,hl,hr,hZ=>by
  simp only [zCK] at hb
  split at hb
  ·rename_i x1 x2 h1 h2
   simp only [Option.some.injEq] at hb
   subst hb
   refine ⟨v,vs,rfl,zF1 h (hr 0 sv v rfl rfl) h1 ?_,zEW h as_ svs vs x2 h2 (by simpa using hl) (fun i sv' v' e1 e2=>hr (i+1) sv' v' (by simpa using e1) (by simpa using e2)) ?_⟩
   ·rcases hZ with hZ|hZ
    ·exact .inl hZ
    ·simp only [List.all_cons,Bool.and_eq_true] at hZ
     exact .inr ⟨hZ.1.1,hZ.2⟩
   ·rcases hZ with hZ|hZ
    ·exact .inl hZ
    ·simp only [List.all_cons,Bool.and_eq_true] at hZ
     exact .inr ⟨hZ.1.2,hZ.2⟩
  ·cases hb
theorem zDf (h:Rel C γ s a w):∀ (as_:List Sh) (ids:List Nat) (y:TupT as_),zBj s as_ ids=some y→zBC w (fun _=>True) as_ y (ids.map fun b=>Value.pointer (some ⟨γ.bx b,0,none⟩))
 | [],[],_,_=>rfl
 | [],_::_,_,hb=>by simp [zBj] at hb
 | _::_,[],_,hb=>by simp [zBj] at hb
 | sh::as_,b::bs,y,hb=>by
  simp only [zBj] at hb
  split at hb
  ·rename_i x1 x2 h1 h2
   simp only [Option.some.injEq] at hb
   subst hb
   exact ⟨_,_,rfl,zJm h (b:=.one (.box b)) rfl h1 (.inl fun _=>trivial),zDf h as_ bs x2 h2⟩
  ·cases hb
theorem zD4 {w':World} {Z:Nat→Prop} (k:Keep (fun _=>False) w w'):∀ (as_:List Sh) (y:TupT as_) (ps:List Value),zBC w Z as_ y ps→zBC w' Z as_ y ps
 | [],_,_,h=>h
 | sh::as_,y,ps,h=>by
  obtain ⟨v,vs,rfl,⟨b,off,cs,h1,h2,h3,h4,h5⟩,h6⟩:=h
  have hb:w'.heap[b]?=w.heap[b]?:=k.block b h3 (fun h=>h)
  refine ⟨v,vs,rfl,⟨b,off,cs,h1,h2,Nat.lt_of_lt_of_le h3 k.size,zAx k.size (fun g hg hz=>⟨hz,k.block g hg (fun h=>h)⟩) sh _ cs h4,fun j c hj=>?_⟩,zD4 k as_ y.2 vs h6⟩
  rw [World.cell?_of_block (w:=w) (w':=w') (a:=⟨b,off+j,none⟩) hb]
  exact h5 j c hj
theorem zCs {Z Z':Nat→Prop} (h:∀ b,Z b→Z' b):∀ (as_:List Sh) (x:TupT as_) (vs:List Value),zDj w Z as_ x vs→zDj w Z' as_ x vs
 | [],_,_,h=>h
 | _::as_,x,vs,hv=>by
  obtain ⟨v,vs',rfl,h1,h2⟩:=hv
  exact ⟨v,vs',rfl,zAq h h1,zCs h as_ x.2 vs' h2⟩
theorem zGa {as_ as':List Sh} {r r':Sh} {f:(TupT as_→Prop)×(TupT as_→r.T)} {g:(TupT as'→Prop)×(TupT as'→r'.T)} (h:tryFn as_ r as' r' f=some g):∃ (e1:as_=as') (e2:r=r'),g=e1 ▸ e2 ▸ f:=by
 unfold tryFn at h
 split at h
 ·rename_i e
  obtain ⟨e1,e2⟩:=e
  refine ⟨e1,e2,?_⟩
  subst e1
  subst e2
  simpa using h.symm
 ·cases h
theorem zR9 (hE:KnowOK C.P E) (h:Rel C γ s a w) {as_:List Sh} {r:Sh} {sv:SV} {v:Value} {f:(TupT as_→Prop)×(TupT as_→r.T)} (hv:svRep C γ w sv v) (hb:zF7 E s as_ r sv=some f) :
 FnOK C.P (fun _=>False) w as_ r f.1 f.2 v:=by
 unfold zF7 at hb
 split at hb
 ·obtain ⟨rfl,rfl,rfl⟩:=zGa hb
  obtain ⟨g,pre,caps,h1,h2,h3⟩:=hv
  exact ⟨g,pre,caps,h1,h2,fun w1 Z x vs hk=>h3 w1 Z x vs (h.keep.step hk (fun _ hf=>hf.elim))⟩
 ·rename_i g caps
  split at hb
  ·rename_i c hc
   split at hb
   ·rename_i hflat
    split at hb
    ·rename_i y hy
     obtain ⟨e1,e2,e3⟩:=zGa hb
     subst e1
     subst e2
     simp only at e3
     subst e3
     have hs:=hE.clo g c hc
     simp only [svRep,bvRep] at hv
     refine ⟨g,_,_,hv,hs.callable,fun w1 Z x vs hk hgd hq hargs=>?_⟩
     have hps:=zDf h c.caps caps y hy
     have:=hs.run w1 (fun _=>True) y x _ vs hgd hq (zD4 hk _ _ _ hps) (zCs (fun _ _=>trivial) _ _ _ hargs)
     have e:(vs++caps.map fun b=>Value.pointer (some ⟨γ.bx b,0,none⟩)).toArray=#[]++vs.toArray++(caps.map fun b=>Value.pointer (some ⟨γ.bx b,0,none⟩)).toArray:=by simp
     rw [←e]
     refine this.mono fun e w2 hx=>?_
     obtain ⟨u,h1,h2,h3⟩:=hx
     exact ⟨u,h1,zCq hflat h2,h3⟩
    ·cases hb
   ·cases hb
  ·cases hb
 ·rename_i g sh x
  split at hb
  ·rename_i a l r' q p hc
   split at hb
   ·rename_i hflat
    split at hb
    ·rename_i y hy
     obtain ⟨e1,e2,e3⟩:=zGa hb
     subst e1
     subst e2
     simp only at e3
     subst e3
     obtain ⟨rfl,rfl⟩:∃ e:sh=a,y=e ▸ x:=by
      unfold zAT at hy
      split at hy
      ·rename_i e; exact ⟨e,by simpa using hy.symm⟩
      ·cases hy
     have hs:=hE.clo g _ hc
     obtain ⟨u,hu,hv⟩:=hv
     refine ⟨g,_,_,hu,hs.callable,fun w1 Z1 z vs hk hgd hq hargs=>?_⟩
     have hv':vrep w1 (fun _=>True) sh y u:=by
      obtain ⟨cs,k1,k2⟩:=hv
      exact ⟨cs,zAx hk.size (fun b hb hz=>⟨trivial,hk.block b hb (fun hf=>hf)⟩) sh y cs k1,k2⟩
     have:=hs.run w1 (fun _=>True) () (y,z) [] (u::vs) hgd hq rfl ⟨u,vs,rfl,hv',zCs (fun _ _=>trivial) _ _ _ hargs⟩
     have e:(u::vs++[]).toArray=#[u]++vs.toArray++#[]:=by simp
     rw [←e]
     refine this.mono fun e w2 hx=>?_
     obtain ⟨u',h1,h2,h3⟩:=hx
     exact ⟨u',h1,zCq hflat h2,h3⟩
    ·cases hb
   ·cases hb
  ·cases hb
 ·cases hb
def zE7 (C:Ctx) (w:World) (Z:Nat→Prop):Ctx:=⟨C.P,fun _=>False,w,Z,0,fun _=>undef,fun _=>0,[]⟩
def gam0:Gam:=⟨fun _=>⟨none,0,0⟩,fun _ _=>⟨none,0,0⟩,fun _=>0,fun _=>none⟩
theorem zn0 {Z:Nat→Prop} {b:Nat} (h:Z b):(zE7 C w Z).zn gam0 b:=⟨.inl h,rfl⟩
theorem zKD (hE:KnowOK C.P E) (h:Rel C γ s a w) {Z:Nat→Prop} (k:Nat):∀ (as_:List AD) (svs:List SV) (vs:List Value) (x:TupA as_),zB6 E s as_ svs=some x→svs.length=vs.length →
 (∀ (i:Nat) (sv:SV) (v:Value),svs[i]?=some sv→vs[i]?=some v→svRep C γ w sv v)→((∀ g,Z g)∨(svs.all zAN=true∧∀ g,C.zn γ g→Z g)) →
 zAp (zE7 C w Z) gam0 w (zAP k as_ x) vs∧zAC k as_ x=[]∧lends as_=0∧zAQ k as_ x=[]
 | [],[],[],_,_,_,_,_=>⟨rfl,rfl,rfl,rfl⟩
 | [],[],_::_,_,_,hl,_,_=>by simp at hl
 | [],_::_,_,_,hb,_,_,_=>by simp [zB6] at hb
 | _::_,[],_,_,hb,_,_,_=>by simp [zB6] at hb
 | _::_,_::_,[],_,_,hl,_,_=>by simp at hl
 | d::as_,sv::svs,v::vs,x,hb,hl,hr,hZ=>by
  simp only [zB6] at hb
  split at hb
  ·rename_i x1 x2 h1 h2
   simp only [Option.some.injEq] at hb
   subst hb
   have hZ1:(∀ g,Z g)∨(zAN sv=true∧∀ g,C.zn γ g→Z g):=by
    rcases hZ with hZ|hZ
    ·exact .inl hZ
    ·simp only [List.all_cons,Bool.and_eq_true] at hZ
     exact .inr ⟨hZ.1.1,hZ.2⟩
   have hZ2:(∀ g,Z g)∨(svs.all zAN=true∧∀ g,C.zn γ g→Z g):=by
    rcases hZ with hZ|hZ
    ·exact .inl hZ
    ·simp only [List.all_cons,Bool.and_eq_true] at hZ
     exact .inr ⟨hZ.1.2,hZ.2⟩
   obtain ⟨k1,k2,k3,k4⟩:=zKD hE h k as_ svs vs x2 h2 (by simpa using hl) (fun i sv' v' e1 e2=>hr (i+1) sv' v' (by simpa using e1) (by simpa using e2)) hZ2
   have hv:=hr 0 sv v rfl rfl
   cases d with
   | dat sh=>exact ⟨⟨v,vs,rfl,zAq (fun b hb=>zn0 hb) (zF1 h hv h1 hZ1),k1⟩,k2,k3,k4⟩
   | ptr sh =>
    obtain ⟨b,off,cs,e1,e2,e3,e4,e5⟩:=zJm h hv h1 hZ1
    exact ⟨⟨v,vs,rfl,⟨b,off,cs,e1,zn0 e2,e3,zAx (Nat.le_refl _) (fun b _ hz=>⟨zn0 hz,rfl⟩) _ _ cs e4,e5⟩,k1⟩,k2,k3,k4⟩
   | fnc l r=>exact ⟨⟨v,vs,rfl,zR9 hE h hv h1,k1⟩,k2,k3,k4⟩
   | pfn l r =>
    simp only [viewA,zUZ] at h1
    split at h1
    ·rename_i as' r' q p
     obtain ⟨e1,e2,e3⟩:=zGa h1
     subst e1
     subst e2
     simp only at e3
     subst e3
     obtain ⟨b,off,c,d1,d2,d3,d4,g,pre,caps,d5,d6,d7⟩:=hv
     refine ⟨⟨v,vs,rfl,⟨b,off,c,d1,zn0 ?_,d3,d4,g,pre,caps,d5,d6,fun w1 Z1 y us hk=>d7 w1 Z1 y us (h.keep.step hk (fun _ hf=>hf.elim))⟩,k1⟩,k2,k3,k4⟩
     rcases hZ1 with hZ1|hZ1
     ·exact hZ1 b
     ·simp [zAN] at hZ1
    ·cases h1
   | lend=>simp [viewA] at h1
   | obj fs=>simp [viewA] at h1
   | sdat sh=>simp [viewA] at h1
   | nilp =>
    simp only [viewA,zO3] at h1
    split at h1
    ·exact ⟨⟨v,vs,rfl,hv,k1⟩,k2,k3,k4⟩
    ·cases h1
  ·cases hb
theorem zIP {α β:Type}:∀ (l:List (Nat×α)) (g:α→β) (k:Nat) (v:α),(l.map (·.1)).Nodup→(k,v)∈l→lk none (l.map fun p=>(p.1,some (g p.2))) k=some (g v)
 | [],_,_,_,_,h=>by simp at h
 | (i,u)::l,g,k,v,hn,h=>by
  simp only [List.map_cons,List.nodup_cons] at hn
  simp only [List.map_cons,lk]
  rcases List.mem_cons.1 h with h|h
  ·simp only [Prod.mk.injEq] at h
   obtain ⟨rfl,rfl⟩:=h
   rw [if_pos rfl]
  ·rw [if_neg]
   ·exact zIP l g k v hn.2 h
   ·intro e
    exact hn.1 (List.mem_map.2 ⟨(k,v),h,e⟩)
theorem zEn {α β:Type} {l:List (Nat×α)} {g:α→β} {k:Nat} {y:β} (h:lk none (l.map fun p=>(p.1,some (g p.2))) k=some y):∃ v,(k,v)∈l∧y=g v:=by
 rcases zIO (none:Option β) (l.map fun p=>(p.1,some (g p.2))) k with h1|h1
 ·rw [h] at h1; cases h1
 ·rw [h] at h1
  simp only [List.mem_map,Prod.mk.injEq,Option.some.injEq] at h1
  obtain ⟨p,hp,e1,e2⟩:=h1
  exact ⟨p.2,by rw [←e1]; exact hp,e2.symm⟩
def invP (l:List (Nat×Nat)) (p:Nat):Option Nat:=lk none (l.map fun q=>(q.1,some q.2)) p
def renP (l:List (Nat×Nat)) (r:Nat):Option Nat:=invP (l.map fun q=>(q.2,q.1)) r
def renL (l:List (Nat×Nat)):Loc→Option Loc
 | .hd r=>(renP l r).map .hd
 | .row r i=>(renP l r).map fun p=>.row p i
 | .bx _=>none
 | .mk _=>none
def zBB (γ γ':Gam) (l:List (Nat×Nat)) (n:Nat):Gam :=
 ⟨fun p=>match invP l p with|some r=>γ'.hs r|none=>γ.hs p,fun p=>match invP l p with|some r=>γ'.rs r|none=>γ.rs p,γ.bx,fun b=>if n≤b then (γ'.own b).bind (renL l) else γ.own b⟩
theorem zC4 {l:List (Nat×Nat)} {p r:Nat} (hn:(l.map (·.1)).Nodup):invP l p=some r↔(p,r)∈l:=by
 constructor
 ·intro h
  obtain ⟨v,h1,h2⟩:=zEn (g:=fun x:Nat=>x) h
  rw [h2]; exact h1
 ·intro h
  exact zIP l (fun x:Nat=>x) p r hn h
theorem zFU {l:List (Nat×Nat)} {p r:Nat} (hn:(l.map (·.2)).Nodup):renP l r=some p↔(p,r)∈l:=by
 unfold renP
 rw [zC4 (by simpa [Function.comp_def] using hn)]
 simp only [List.mem_map,Prod.mk.injEq]
 constructor
 ·rintro ⟨q,h1,h2,h3⟩
  rw [←h2,←h3]; exact h1
 ·intro h
  exact ⟨(p,r),h,rfl,rfl⟩
theorem zCz (d:Nat):∀ (res:List RV) (j:Nat),∀ p∈(zAs d j res).map (·.1),∃ k,j≤k∧p=rid d k
 | [],_,p,hp=>by simp [zAs] at hp
 | .val _ _::rs,j,p,hp=>by
  obtain ⟨k,h1,h2⟩:=zCz d rs (j+1) p (by simpa [zAs] using hp)
  exact ⟨k,by omega,h2⟩
 | .own rc::rs,j,p,hp=>by
  simp only [zAs,List.map_cons,List.mem_cons] at hp
  rcases hp with hp|hp
  ·exact ⟨j,Nat.le_refl _,hp⟩
  ·obtain ⟨k,h1,h2⟩:=zCz d rs (j+1) p hp
   exact ⟨k,by omega,h2⟩
 | .nil::rs,j,p,hp|.raw _::rs,j,p,hp|.ifc::rs,j,p,hp|.any::rs,j,p,hp|.obj _::rs,j,p,hp=>by
  obtain ⟨k,h1,h2⟩:=zCz d rs (j+1) p (by simpa [zAs] using hp)
  exact ⟨k,by omega,h2⟩
theorem zBZ (d:Nat):∀ (res:List RV) (j:Nat),((zAs d j res).map (·.1)).Nodup
 | [],_=>by simp [zAs]
 | .val _ _::rs,j=>by simpa [zAs] using zBZ d rs (j+1)
 | .nil::rs,j|.raw _::rs,j|.ifc::rs,j|.any::rs,j|.obj _::rs,j=>by simpa [zAs] using zBZ d rs (j+1)
 | .own rc::rs,j=>by
  simp only [zAs,List.map_cons,List.nodup_cons]
  refine ⟨fun hp=>?_,zBZ d rs (j+1)⟩
  obtain ⟨k,h1,h2⟩:=zCz d rs (j+1) _ hp
  simp only [rid] at h2
  omega
theorem zCy {C':Ctx} {γ':Gam} {w':World} (d:Nat):∀ (res:List RV) (j:Nat) (ids bids:List Nat) (vs:List Value),zCN C' γ' w' res ids bids vs→ids.length=(zAs d j res).length
 | [],_,_,_,_,h=>by rw [h.1]; rfl
 | .val _ _::rs,j,ids,bids,vs,h|.any::rs,j,ids,bids,vs,h=>by
  obtain ⟨v,vs',h⟩:=h
  exact zCy d rs (j+1) ids bids vs' (by first|exact h.2.2|exact h.2)
 | .nil::rs,j,ids,bids,vs,h|.raw _::rs,j,ids,bids,vs,h=>by
  obtain ⟨vs',_,h⟩:=h
  exact zCy d rs (j+1) ids bids vs' h
 | .ifc::rs,j,ids,bids,vs,h=>by
  obtain ⟨t,u,vs',_,h⟩:=h
  exact zCy d rs (j+1) ids bids vs' h
 | .obj _::rs,j,ids,bids,vs,h=>by
  obtain ⟨vs',i,bids',_,_,_,h⟩:=h
  exact zCy d rs (j+1) ids bids' vs' h
 | .own rc::rs,j,ids,bids,vs,h=>by
  obtain ⟨v,vs',i,ids',_,rfl,_,_,h⟩:=h
  simp only [zAs,List.length_cons]
  rw [zCy d rs (j+1) ids' bids vs' h]
theorem zCh {C':Ctx} {γ' γ2:Gam} {w':World} (d:Nat) (strict:Bool) (hz:strict=true→∀ b,C'.zn γ' b→C.zn γ2 b):∀ (res:List RV) (j:Nat) (ids bids:List Nat) (vs:List Value),zCN C' γ' w' res ids bids vs→zAS d j res=[] →
 (∀ p r,(p,r)∈((zAs d j res).map (·.1)).zip ids→γ2.hd p=γ'.hd r)→zAp C γ2 w' (zDS d strict j res) vs
 | [],_,_,_,vs,h,_,_=>h.2.2
 | .val sh x::rs,j,ids,bids,vs,h,ho,hm=>by
  obtain ⟨v,vs',rfl,h1,h2⟩:=h
  refine ⟨v,vs',rfl,?_,zCh d strict hz rs (j+1) ids bids vs' h2 (by simpa [zAS] using ho) hm⟩
  split
  ·rename_i hs
   simp only [Bool.or_eq_true] at hs
   rcases hs with hs|hs
   ·exact zAq (hz hs) h1
   ·exact zCq hs h1
  ·trivial
 | .own rc::rs,j,ids,bids,vs,h,ho,hm=>by
  obtain ⟨v,vs',i,ids',rfl,rfl,h1,_,h2⟩:=h
  refine ⟨v,vs',rfl,?_,zCh d strict hz rs (j+1) ids' bids vs' h2 (by simpa [zAS] using ho) (fun p r hp=>hm p r (by simp [zAs,hp]))⟩
  show v=γ2.hd (rid d j)
  rw [h1,hm (rid d j) i (by simp [zAs])]
 | .nil::rs,j,ids,bids,vs,h,ho,hm=>by
  obtain ⟨vs',rfl,h2⟩:=h
  exact ⟨_,vs',rfl,rfl,zCh d strict hz rs (j+1) ids bids vs' h2 (by simpa [zAS] using ho) hm⟩
 | .raw u::rs,j,ids,bids,vs,h,ho,hm=>by
  obtain ⟨vs',rfl,h2⟩:=h
  exact ⟨_,vs',rfl,rfl,zCh d strict hz rs (j+1) ids bids vs' h2 (by simpa [zAS] using ho) hm⟩
 | .ifc::rs,j,ids,bids,vs,h,ho,hm=>by
  obtain ⟨t,u,vs',rfl,h2⟩:=h
  exact ⟨_,vs',rfl,⟨t,u,rfl⟩,zCh d strict hz rs (j+1) ids bids vs' h2 (by simpa [zAS] using ho) hm⟩
 | .any::rs,j,ids,bids,vs,h,ho,hm=>by
  obtain ⟨v,vs',rfl,h2⟩:=h
  exact ⟨_,vs',rfl,trivial,zCh d strict hz rs (j+1) ids bids vs' h2 (by simpa [zAS] using ho) hm⟩
 | .obj o::rs,j,ids,bids,vs,h,ho,hm=>by simp [zAS] at ho
theorem zBO {C':Ctx} {γ':Gam} {w':World} (d:Nat):∀ (res:List RV) (j:Nat) (ids bids:List Nat) (vs:List Value),zCN C' γ' w' res ids bids vs →
 ∀ p rc,(p,rc)∈zAs d j res→∃ r,(p,r)∈((zAs d j res).map (·.1)).zip ids∧zKk C' γ' w' r rc
 | [],_,_,_,_,_,_,_,hp=>by simp [zAs] at hp
 | .val sh x::rs,j,ids,bids,vs,h,p,rc,hp=>by
  obtain ⟨v,vs',rfl,h1,h2⟩:=h
  exact zBO d rs (j+1) ids bids vs' h2 p rc hp
 | .any::rs,j,ids,bids,vs,h,p,rc,hp=>by
  obtain ⟨v,vs',rfl,h2⟩:=h
  exact zBO d rs (j+1) ids bids vs' h2 p rc hp
 | .nil::rs,j,ids,bids,vs,h,p,rc,hp|.raw _::rs,j,ids,bids,vs,h,p,rc,hp=>by
  obtain ⟨vs',rfl,h2⟩:=h
  exact zBO d rs (j+1) ids bids vs' h2 p rc hp
 | .ifc::rs,j,ids,bids,vs,h,p,rc,hp=>by
  obtain ⟨t,u,vs',rfl,h2⟩:=h
  exact zBO d rs (j+1) ids bids vs' h2 p rc hp
 | .obj o::rs,j,ids,bids,vs,h,p,rc,hp=>by
  obtain ⟨vs',i,bids',rfl,rfl,_,h2⟩:=h
  exact zBO d rs (j+1) ids bids' vs' h2 p rc hp
 | .own rc'::rs,j,ids,bids,vs,h,p,rc,hp=>by
  obtain ⟨v,vs',i,ids',rfl,rfl,h1,h3,h2⟩:=h
  simp only [zAs,List.mem_cons,Prod.mk.injEq] at hp
  rcases hp with ⟨rfl,rfl⟩|hp
  ·exact ⟨i,by simp [zAs],h3⟩
  ·obtain ⟨r,k1,k2⟩:=zBO d rs (j+1) ids' bids vs' h2 p rc hp
   exact ⟨r,by simp [zAs,k1],k2⟩
theorem zFQ {γ2:Gam} {w':World} (bs:List BV) (vs:List Value) (h:zAp C γ2 w' bs vs):svRep C γ2 w' (zI1 bs) (zHi vs):=by
 match bs,vs,h with
 | [],_,h=>simp only [zAp] at h; subst h; exact ⟨[],rfl,rfl⟩
 | [b],_,h =>
  obtain ⟨v,vs',rfl,h1,h2⟩:=h
  simp only [zAp] at h2
  subst h2
  exact h1
 | b::b'::bs,_,h =>
  have h0:=h
  obtain ⟨v,vs',rfl,h1,v2,vs2,rfl,h2,h3⟩:=h
  exact ⟨_,rfl,h0⟩
theorem zJx {γ2:Gam} {l:List Nat} (hh:∀ p,p ∉ l→γ2.hd p=γ.hd p) (hr:∀ p i,p ∉ l→γ2.rows p i=γ.rows p i) (hb:∀ x,γ2.bx x=γ.bx x):Forgets (zJ2 l) γ γ2:=by
 intro b
 unfold zJ2
 split
 ·exact .inl rfl
 ·rename_i hn
  right
  refine ⟨rfl,?_⟩
  have hn':∀ r∈names b,r ∉ l:=by
   intro r hr' hl
   exact hn (List.any_eq_true.2 ⟨r,hr',by simpa using hl⟩)
  cases b<;>simp only [Agree]<;>first
   | trivial
   | (exact hb _)
   | (exact fun x _=>hb x)
   | (exact hh _ (hn' _ (List.mem_singleton.2 rfl)))
   | (exact hr _ _ (hn' _ (List.mem_singleton.2 rfl)))
theorem zLS {C':Ctx} {γ':Gam} {w':World} {l:List (Nat×Nat)} (h1:(l.map (·.1)).Nodup) (h2:(l.map (·.2)).Nodup) (hw:C'.w0=w) (hL:∀ b,¬C'.L b) (hk:C.w0.heap.size≤w.heap.size) {p r:Nat} (hm:(p,r)∈l) {rc:RC} (h:zKk C' γ' w' r rc) :
 rcRep C (zBB γ γ' l w.heap.size) w' p rc:=by
 obtain ⟨h,hwh⟩:=h
 have hi:=(zC4 h1).2 hm
 have hr:=(zFU h2).2 hm
 have hhd:(zBB γ γ' l w.heap.size).hd p=γ'.hd r:=by simp [Gam.hd,zBB,hi]
 have hrow:∀ i,(zBB γ γ' l w.heap.size).rows p i=γ'.rows r i:=fun i=>by simp [Gam.rows,zBB,hi]
 have hrf:∀ m,zAY (zBB γ γ' l w.heap.size) p m=zAY γ' r m:=fun m=>by simp [zAY,hrow]
 have ho1:∀ v,ownB C' γ' v (.hd r)→ownB C (zBB γ γ' l w.heap.size) v (.hd p):=by
  intro v ho k hv
  obtain ⟨e1,e2⟩:=ho k hv
  have e3:w.heap.size≤k:=by
   rcases e2 with e2|e2
   ·rw [hw] at e2; exact e2
   ·exact absurd e2 (hL k)
  exact ⟨by simp [zBB,e3,e1,renL,hr],.inl (by omega)⟩
 have ho2:∀ v i,ownB C' γ' v (.row r i)→ownB C (zBB γ γ' l w.heap.size) v (.row p i):=by
  intro v i ho k hv
  obtain ⟨e1,e2⟩:=ho k hv
  have e3:w.heap.size≤k:=by
   rcases e2 with e2|e2
   ·rw [hw] at e2; exact e2
   ·exact absurd e2 (hL k)
  exact ⟨by simp [zBB,e3,e1,renL,hr],.inl (by omega)⟩
 cases rc with
 | flat e sh xs=>exact ⟨h.1,by rw [hhd]; exact h.2.1,by rw [hhd]; exact ho1 _ h.2.2⟩
 | deep e e2 sh xss=>exact ⟨h.1,by rw [hhd,hrf]; exact h.2.1,by rw [hhd]; exact ho1 _ h.2.2.1,fun i xs hx=>by
  have h4:=h.2.2.2 i xs hx
  unfold zCb at *
  rw [hrow]
  exact ⟨h4.1,ho2 _ i h4.2⟩⟩
 | hole e e2 sh xss k=>exact ⟨h.1,by rw [hhd,hrf]; exact h.2.1,by rw [hhd]; exact ho1 _ h.2.2.1,fun i xs hne hx=>by
  have h4:=h.2.2.2 i xs hne hx
  unfold zCb at *
  rw [hrow]
  exact ⟨h4.1,ho2 _ i h4.2⟩⟩
 | rags e sh xss=>simp [whole] at hwh
theorem zHw {α β:Type}:∀ (l:List α) (m:List β),l.length=m.length→(l.zip m).map (·.1)=l
 | [],[],_=>rfl
 | [],_::_,h=>by simp at h
 | _::_,[],h=>by simp at h
 | a::l,b::m,h=>by simp [zHw l m (by simpa using h)]
theorem zJw {α β:Type}:∀ (l:List α) (m:List β),l.length=m.length→(l.zip m).map (·.2)=m
 | [],[],_=>rfl
 | [],_::_,h=>by simp at h
 | _::_,[],h=>by simp at h
 | a::l,b::m,h=>by simp [zJw l m (by simpa using h)]
theorem zNK (hE:KnowOK C.P E) (h:Rel C γ s a w) (d:Option Tmp) (f:FuncId) (svs:List SV) (vs:List Value) (hl:svs.length=vs.length)
 (hr:∀ (i:Nat) (sv:SV) (v:Value),svs[i]?=some sv→vs[i]?=some v→svRep C γ w sv v) (hok:(callE E C.nl s d f svs).1) :
 zBf C.P f∧Calls C.P f vs.toArray w (fun e w'=>∃ v γ2,e=.returned v∧Rel C γ2 (callE E C.nl s d f svs).2.1 a w'∧svRep C γ2 w' (callE E C.nl s d f svs).2.2 v):=by
 unfold callE at hok ⊢
 cases hT:E.T f with
 | none=>rw [hT] at hok; exact hok.elim
 | some c =>
  rw [hT] at hok
  simp only at hok ⊢
  cases hv:zB6 E s c.as_ svs with
  | none=>rw [hv] at hok; exact hok.elim
  | some x =>
   rw [hv] at hok
   simp only at hok ⊢
   cases hro:zAS (d.getD 0) 0 (c.post x).res with
   | cons o os=>rw [hro] at hok; exact hok.elim
   | nil =>
   rw [hro] at hok
   simp only at hok ⊢
   have hspec:=hE.con f c hT
   refine ⟨hspec.callable,?_⟩
   let strict:=svs.all zAN
   let Z:Nat→Prop:=if strict=true then C.zn γ else fun _=>True
   have hZ:(∀ g,Z g)∨(svs.all zAN=true∧∀ g,C.zn γ g→Z g):=by
    by_cases hs:strict=true
    ·right
     exact ⟨hs,fun g hg=>by simp only [Z,hs,if_true]; exact hg⟩
    ·left
     intro g
     simp only [Z,hs]
     trivial
   obtain ⟨k1,k2,k3,k4⟩:=zKD hE h (Z:=Z) 0 c.as_ svs vs x hv hl hr hZ
   have hpre:c.pre x:=by
    split at hok
    ·exact hok
    ·exact hok.1
   have hcall:=hspec.run (zE7 C w Z) gam0 x vs hpre ⟨rfl,k3.symm,⟨rfl,h.defers.2.at h.keep,fun k hk=>hk.elim⟩,fun r hr=>absurd hr (Nat.not_lt_zero r),fun k l hk=>by simp [gam0] at hk,k1,fun p hp=>by rw [k2] at hp; simp at hp,fun p hp=>by rw [k4] at hp; simp at hp⟩
   refine hcall.mono fun e w' hx=>?_
   obtain ⟨v,γ',rfl,⟨⟨ids,bids,us,rfl,hres,hnd,_⟩,_,_,holt⟩,hkeep⟩:=hx
   have hkeep':Keep (fun _=>False) w w':=hkeep
   have hnd1:ids.Nodup:=(List.nodup_append.1 hnd).1
   split
   ·rename_i hnil
    have hlen:=zCy (d.getD 0) (c.post x).res 0 ids bids us hres
    rw [hnil] at hlen
    have hids:ids=[]:=by simpa using hlen
    refine ⟨_,γ,rfl,h.world hkeep',zFQ _ _ ?_⟩
    refine zCh (C':=zE7 C w Z) (γ':=γ') (d.getD 0) strict (fun hs b hb=>?_) (c.post x).res 0 ids bids us hres hro (fun p r hp=>by rw [hnil] at hp; simp at hp)
    have hZs:Z=C.zn γ:=by simp only [Z,hs,if_true]
    rcases hb.1 with h1|h1|h1
    ·have h1':Z b:=h1
     rw [hZs] at h1'; exact h1'
    ·have h1':w.heap.size≤b:=h1
     refine ⟨.inr (.inl (Nat.le_trans h.keep.size h1')),?_⟩
     cases ho:γ.own b with
     | none=>rfl
     | some l=>have:=h.ownlt b l ho; omega
    ·exact h1.elim
   ·rename_i hnil
    have hok':c.pre x∧C.nl≤d.getD 0:=by
     split at hok
     ·rename_i h0; exact absurd h0 hnil
     ·exact hok
    have hlen:=zCy (d.getD 0) (c.post x).res 0 ids bids us hres
    let rids:=(zAs (d.getD 0) 0 (c.post x).res).map (·.1)
    let l:=rids.zip ids
    have hll:rids.length=ids.length:=by simp only [rids,List.length_map]; exact hlen.symm
    have hl1:l.map (·.1)=rids:=zHw _ _ hll
    have hl2:l.map (·.2)=ids:=zJw _ _ hll
    have hn1:(l.map (·.1)).Nodup:=by rw [hl1]; exact zBZ _ _ _
    have hn2:(l.map (·.2)).Nodup:=by rw [hl2]; exact hnd1
    have hridge:∀ p∈rids,C.nl≤p:=by
     intro p hp
     obtain ⟨k,_,h2⟩:=zCz _ _ _ p hp
     have:=hok'.2
     rw [h2]; unfold rid; omega
    have hinv:∀ p,invP l p≠none→p∈rids:=by
     intro p hp
     cases hi:invP l p with
     | none=>exact absurd hi hp
     | some r =>
      have:=(zC4 hn1).1 hi
      rw [←hl1]
      exact List.mem_map.2 ⟨_,this,rfl⟩
    have hinv':∀ p,p ∉ rids→invP l p=none:=fun p hp=>by
     cases hi:invP l p with
     | none=>rfl
     | some r=>exact absurd (hinv p (by rw [hi]; simp)) hp
    have hsame:∀ b,b<w.heap.size→(zBB γ γ' l w.heap.size).own b=γ.own b:=fun b hb=>by simp only [zBB]; rw [if_neg (by omega)]
    have m:Move C γ w (zBB γ γ' l w.heap.size) w' (fun p=>p∈rids):=by
     refine ⟨⟨hkeep'.size,fun b hb hz=>⟨⟨hz.1,by rw [hsame b hb]; exact hz.2⟩,hkeep'.block b hb (fun h=>h)⟩,fun b d hb ho=>⟨by rw [hsame b hb]; exact ho,hkeep'.block b hb (fun h=>h)⟩⟩,h.keep.step hkeep' (fun _ hf=>hf.elim),fun k lo hk=>?_,fun r hr=>?_,fun p hp=>?_,fun p i hp=>?_,fun _=>rfl,fun b lo hb _=>⟨by rw [hsame b (h.ownlt b lo hb)]; exact hb,hkeep'.block b (h.ownlt b lo hb) (fun h=>h)⟩⟩
     ·simp only [zBB] at hk
      split at hk
      ·cases ho:γ'.own k with
       | none=>rw [ho] at hk; simp at hk
       | some l'=>exact holt k l' ho
      ·exact Nat.lt_of_lt_of_le (h.ownlt k lo hk) hkeep'.size
     ·have:invP l r=none:=hinv' r (fun hp=>by have:=hridge r hp; omega)
      simp only [Gam.hd,zBB,this]
      exact (h.lent r hr).1
     ·simp only [Gam.hd,zBB,hinv' p hp]
     ·simp only [Gam.rows,zBB,hinv' p hp]
    refine ⟨_,zBB γ γ' l w.heap.size,rfl,?_,zFQ _ _ ?_⟩
    ·refine m.rel h (K:=zJ2 rids) (zJx (fun p hp=>m.hd p hp) (fun p i hp=>m.rows p i hp) m.bx) (roots':=((s.map (zJ2 rids)).setRoots _).roots) (fun p rc hp=>?_)
     simp only [AS.setRoots] at hp
     split at hp
     ·rename_i rc' he
      simp only [Option.some.injEq] at hp
      subst hp
      obtain ⟨v',e1,e2⟩:=zEn (g:=fun x:RC=>x) he
      subst e2
      obtain ⟨r,e3,e4⟩:=zBO (d.getD 0) (c.post x).res 0 ids bids us hres p rc' e1
      exact .inr (zLS hn1 hn2 rfl (fun _ hf=>hf) h.keep.size e3 e4)
     ·rename_i he
      refine .inl ⟨fun hp'=>?_,hp⟩
      simp only [rids,List.mem_map] at hp'
      obtain ⟨q,e1,e2⟩:=hp'
      have:=zIP _ (fun x:RC=>x) q.1 q.2 (zBZ (d.getD 0) (c.post x).res 0) e1
      rw [e2,he] at this
      cases this
    ·refine zCh (C':=zE7 C w Z) (γ':=γ') (d.getD 0) strict (fun hs b hb=>?_) (c.post x).res 0 ids bids us hres hro (fun p r hp=>?_)
     ·have hZs:Z=C.zn γ:=by simp only [Z,hs,if_true]
      have hnew:w.heap.size≤b→C.zn (zBB γ γ' l w.heap.size) b:=fun h1=>by
       refine ⟨.inr (.inl (Nat.le_trans h.keep.size h1)),?_⟩
       simp only [zBB]
       rw [if_pos h1,hb.2]
       rfl
      rcases hb.1 with h1|h1|h1
      ·have h1':Z b:=h1
       rw [hZs] at h1'
       rcases Nat.lt_or_ge b w.heap.size with hlt|hge
       ·exact ⟨h1'.1,by rw [hsame b hlt]; exact h1'.2⟩
       ·exact hnew hge
      ·exact hnew h1
      ·exact h1.elim
     ·have:=(zC4 hn1).2 hp
      simp only [Gam.hd,zBB,this]
theorem zNP (h:Rel C γ s a w) {as_:List Sh} {r:Sh} {q:TupT as_→Prop} {p:TupT as_→r.T} {v:Value} (hv:bvRep C γ w (.fnv as_ r q p) v) (svs:List SV) (vs:List Value) (hl:svs.length=vs.length)
 (hr:∀ (i:Nat) (sv:SV) (v:Value),svs[i]?=some sv→vs[i]?=some v→svRep C γ w sv v) (hok:(callV s svs as_ r q p).1) :
 ∃ f pre caps,v=.func (.func f) pre caps∧zBf C.P f∧Calls C.P f (pre++vs.toArray++caps) w (fun e w'=>∃ v γ2,e=.returned v∧Rel C γ2 (callV s svs as_ r q p).2.1 a w'∧svRep C γ2 w' (callV s svs as_ r q p).2.2 v):=by
 obtain ⟨f,pre,caps,h1,h2,h3⟩:=hv
 unfold callV at hok ⊢
 split at hok
 ·rename_i x hx
  refine ⟨f,pre,caps,h1,h2,?_⟩
  let strict:=svs.all zAN
  let Z:Nat→Prop:=if strict=true then C.zn γ else fun _=>True
  have hZ:(∀ g,Z g)∨(svs.all zAN=true∧∀ g,C.zn γ g→Z g):=by
   by_cases hs:strict=true
   ·right
    exact ⟨hs,fun g hg=>by simp only [Z,hs,if_true]; exact hg⟩
   ·left
    intro g
    simp only [Z,hs]
    trivial
  refine (h3 w Z x vs h.keep (h.defers.2.at h.keep) hok (zEW h as_ svs vs x hx hl hr hZ)).mono fun e w' hx=>?_
  obtain ⟨u,rfl,hu,hk⟩:=hx
  refine ⟨u,γ,rfl,h.world hk,?_⟩
  show svRep C γ w' (.one (if (svs.all zAN || r.flat)=true then .val r (p x) else .any)) u
  split
  ·rename_i hs
   simp only [Bool.or_eq_true] at hs
   rcases hs with hs|hs
   ·refine zAq (fun b hb=>?_) hu
    have hZs:Z=C.zn γ:=by simp only [Z,strict,hs,if_true]
    rcases hb with hb|hb
    ·rw [hZs] at hb; exact hb
    ·refine ⟨.inr (.inl (Nat.le_trans h.keep.size hb)),?_⟩
     cases ho:γ.own b with
     | none=>rfl
     | some l=>have:=h.ownlt b l ho; omega
   ·exact zCq hs hu
  ·trivial
 ·exact hok.elim
end
end Go.VS
namespace Go.VS
open Go.RowKit
def zCV:List AD→Bool
 | []=>false
 | .lend::_=>true
 | .obj _::as_=>zCV as_
 | .sdat _::as_=>zCV as_
 | .dat _::as_=>zCV as_
 | .ptr _::as_=>zCV as_
 | .fnc _ _::as_=>zCV as_
 | .pfn _ _::as_=>zCV as_
 | .nilp::as_=>zCV as_
def zAM:List AD→List SV→List Nat
 | .lend::as_,.one (.ref r)::vs=>r::zAM as_ vs
 | .lend::as_,_::vs=>zAM as_ vs
 | .obj _::as_,_::vs=>zAM as_ vs
 | .sdat _::as_,_::vs=>zAM as_ vs
 | .dat _::as_,_::vs=>zAM as_ vs
 | .ptr _::as_,_::vs=>zAM as_ vs
 | .fnc _ _::as_,_::vs=>zAM as_ vs
 | .pfn _ _::as_,_::vs=>zAM as_ vs
 | .nilp::as_,_::vs=>zAM as_ vs
 | [],_=>[]
 | _::_,[]=>[]
def offR (R:List Nat):SV→Bool
 | .one b=>!((names b).any fun r=>R.elem r)
 | _=>true
theorem emptyRC.whole {rc:RC} (h:emptyRC rc):whole rc=true:=by cases rc<;>first|rfl|exact h.elim
def zHI (s:AS) (r:Nat):Option RC:=match s.roots r with
 | some rc=>if whole rc then some rc else none
 | none=>none
theorem zCW {s:AS} {r:Nat} {rc:RC} (h:zHI s r=some rc):s.roots r=some rc∧whole rc=true:=by
 unfold zHI at h
 split at h
 ·rename_i rc' hr
  split at h
  ·rename_i hw
   simp only [Option.some.injEq] at h
   subst h
   exact ⟨hr,hw⟩
  ·cases h
 ·cases h
def zIW (s:AS) (R:List Nat):List Nat→Bool
 | []=>true
 | b::bs=>(match s.boxes b with
  | some v=>offR R v
  | none=>false) && zIW s R bs
def offFn (s:AS) (R:List Nat):SV→Bool
 | .one (.fn _ caps)=>zIW s R caps
 | _=>true
def viewL (E:Know) (s:AS) (R:List Nat):(d:AD)→SV→Option d.T
 | .dat sh,v=>if offR R v then zDW s sh v else none
 | .lend,.one (.ref r)=>zHI s r
 | .fnc as_ r,v=>if offFn s R v then zF7 E s as_ r v else none
 | _,_=>none
def zEB (E:Know) (s:AS) (R:List Nat):(as_:List AD)→List SV→Option (TupA as_)
 | [],[]=>some ()
 | a::as_,v::vs=>match viewL E s R a v,zEB E s R as_ vs with
  | some x,some y=>some (x,y)
  | _,_=>none
 | _,_=>none
def zCn:List AD→List SV→Bool
 | .dat _::as_,v::vs=>zAN v && zCn as_ vs
 | .lend::as_,_::vs=>zCn as_ vs
 | .fnc _ _::as_,_::vs=>zCn as_ vs
 | .ptr _::_,_=>false
 | .pfn _ _::_,_=>false
 | _,_=>true
def AS.dropR (s:AS) (R:List Nat):AS:={s with roots:=fun r=>if R.elem r then none else s.roots r}
theorem zS1 (s:AS) (R:List Nat):(s.dropR R).env=s.env:=rfl
theorem zN2 (s:AS) (R:List Nat):(s.dropR R).boxes=s.boxes:=rfl
theorem zN3 (s:AS) (R:List Nat) (r:Nat):(s.dropR R).roots r=if R.elem r then none else s.roots r:=rfl
def killL (rids R:List Nat) (b:BV):BV:=if (names b).any (fun r=>rids.elem r) then .any else match b with
 | .refi q _=>if R.elem q then .any else b
 | .adri q _ _ _=>if R.elem q then .any else b
 | b=>b
def callL (E:Know) (nl:Nat) (s:AS) (dst:Option Tmp) (c:Con) (svs:List SV):Prop×AS×SV :=
 match zEB E s (zAM c.as_ svs) c.as_ svs with
 | some x=>(c.pre x∧(zAM c.as_ svs).Nodup∧(∀ p∈(c.post x).left,p.1<(zAM c.as_ svs).length) ∧
  (∀ r∈zAM c.as_ svs,r ∉ (zAs (dst.getD 0) 0 (c.post x).res).map (·.1))∧(zAs (dst.getD 0) 0 (c.post x).res=[]∨nl≤dst.getD 0)∧zAS (dst.getD 0) 0 (c.post x).res=[],
  ((s.map (killL ((zAs (dst.getD 0) 0 (c.post x).res).map (·.1)) (zAM c.as_ svs))).dropR (zAM c.as_ svs)).setRoots (zAs (dst.getD 0) 0 (c.post x).res++(c.post x).left.map fun p=>((zAM c.as_ svs).getD p.1 0,p.2)),
  zI1 (zDS (dst.getD 0) (zCn c.as_ svs) 0 (c.post x).res))
 | none=>badE s
def zPG (s:Sh):BV→Option s.T
 | .val s' x=>zAT s' s x
 | .nils=>match s with
  | .sl _=>some []
  | _=>none
 | _=>none
def fdOne (k:Nat):(f:Fd)→BV→Option f.T
 | .val s,b=>zPG s b
 | .raw i n,.raw (.int i' n')=>if i=i'∧n=n' then some () else none
 | .slk e,.mk d e' s' xs=>if d=k∧e=e' then zAT (.sl s') (.sl .str) xs else none
 | _,_=>none
def asFd (k:Nat):(fs:List Fd)→List BV→Option (FdT fs)
 | [],[]=>some ()
 | f::fs,b::bs=>match fdOne k f b,asFd k fs bs with
  | some x,some y=>some (x,y)
  | _,_=>none
 | _,_=>none
def zHD:List AD→Bool
 | .obj _::_=>true
 | .sdat _::_=>true
 | _::as_=>zHD as_
 | []=>false
def zCl:List AD→List SV→List Nat
 | .obj _::as_,.one (.box b)::vs=>b::zCl as_ vs
 | _::as_,_::vs=>zCl as_ vs
 | _,_=>[]
def viewO (s:AS):(d:AD)→SV→Option d.T
 | .dat sh,v=>if zAN v then zDW s sh v else none
 | .sdat sh,v=>if zAN v then zDW s sh v else none
 | .obj fs,.one (.box b)=>match s.boxes b with
  | some (.rcd bs)=>asFd b fs bs
  | _=>none
 | _,_=>none
def zH0 (s:AS):(as_:List AD)→List SV→Option (TupA as_)
 | [],[]=>some ()
 | a::as_,v::vs=>match viewO s a v,zH0 s as_ vs with
  | some x,some y=>some (x,y)
  | _,_=>none
 | _,_=>none
def killO (rids ids:List Nat) (b:BV):BV:=match b with
 | .box q=>if rids.elem q then .any else b
 | .boxf q _ _ _=>if rids.elem q then .any else b
 | .fn _ caps=>if caps.any (fun q=>rids.elem q) then .any else b
 | .mk d _ _ _=>if rids.elem d || ids.elem d then .any else b
 | b=>b
def AS.dropB (s:AS) (R:List Nat):AS:={s with boxes:=fun b=>if R.elem b then none else s.boxes b}
def AS.setObs (s:AS) (l:List (Nat×Ob)):AS:={s with boxes:=fun b=>match lk none (l.map fun p=>(p.1,some (p.2.sv p.1))) b with
 | some sv=>some sv
 | none=>s.boxes b}
theorem zS0 (s:AS) (R:List Nat):(s.dropB R).env=s.env:=rfl
theorem zN1 (s:AS) (R:List Nat):(s.dropB R).roots=s.roots:=rfl
theorem zN0 (s:AS) (R:List Nat) (b:Nat):(s.dropB R).boxes b=if R.elem b then none else s.boxes b:=rfl
theorem zRR (s:AS) (l:List (Nat×Ob)):(s.setObs l).env=s.env:=rfl
theorem zM4 (s:AS) (l:List (Nat×Ob)):(s.setObs l).roots=s.roots:=rfl
theorem zM3 (s:AS) (l:List (Nat×Ob)) (b:Nat):(s.setObs l).boxes b=match lk none (l.map fun p=>(p.1,some (p.2.sv p.1))) b with
 | some sv=>some sv
 | none=>s.boxes b:=rfl
def callO (nl:Nat) (s:AS) (dst:Option Tmp) (c:Con) (svs:List SV):Prop×AS×SV :=
 match zH0 s c.as_ svs with
 | some x=>(c.pre x∧(zCl c.as_ svs).Nodup∧(∀ p∈(c.post x).objs,p.1<(zCl c.as_ svs).length) ∧
  (∀ r∈zCl c.as_ svs,r ∉ (zAS (dst.getD 0) 0 (c.post x).res).map (·.1))∧(zAS (dst.getD 0) 0 (c.post x).res=[]∨nl≤dst.getD 0)∧zAs (dst.getD 0) 0 (c.post x).res=[],
  ((s.map (killO ((zAS (dst.getD 0) 0 (c.post x).res).map (·.1)) (zCl c.as_ svs))).dropB (zCl c.as_ svs)).setObs (zAS (dst.getD 0) 0 (c.post x).res++(c.post x).objs.map fun p=>((zCl c.as_ svs).getD p.1 0,p.2)),
  zI1 (zDS (dst.getD 0) true 0 (c.post x).res))
 | none=>badE s
def callF (E:Know) (nl:Nat) (s:AS) (dst:Option Tmp) (f:FuncId) (svs:List SV):Prop×AS×SV :=
 match E.T f with
 | some c=>match zHD c.as_ with
  | true=>callO nl s dst c svs
  | false=>match zCV c.as_ with
   | true=>callL E nl s dst c svs
   | false=>callE E nl s dst f svs
 | none=>badE s
section
variable {C:Ctx} {E:Know} {γ:Gam} {s:AS} {a:Act} {w:World} {f:FuncId} {c:Con}
def lentP (R:List Nat):List (Nat×Nat):=(List.range R.length).zip R
def zBe (γ:Gam) (R:List Nat):Gam:=⟨fun k=>γ.hs (R.getD k 0),fun k=>γ.rs (R.getD k 0),fun _=>0,fun b=>(γ.own b).bind (renL (lentP R))⟩
def lentB (γ:Gam) (R:List Nat) (b:Nat):Bool:=((γ.own b).bind (renL (lentP R))).isSome
def zB9 (C:Ctx) (γ:Gam) (R:List Nat) (w:World) (Z:Nat→Prop):Ctx:=⟨C.P,fun b=>lentB γ R b=true∧(C.w0.heap.size≤b∨C.L b),w,Z,R.length,fun k=>γ.hd (R.getD k 0),fun _=>0,[]⟩
theorem zIL {R:List Nat} {k r:Nat}:(k,r)∈lentP R↔R[k]?=some r:=by
 unfold lentP
 constructor
 ·intro h
  obtain ⟨i,hi⟩:=List.mem_iff_getElem?.1 h
  rw [List.getElem?_zip_eq_some] at hi
  obtain ⟨h1,h2⟩:=hi
  have:i=k:=by
   rw [List.getElem?_range (by
    have:=(List.getElem?_eq_some_iff.1 h2).1
    exact this)] at h1
   simpa using h1
  subst this
  exact h2
 ·intro h
  have hk:=(List.getElem?_eq_some_iff.1 h).1
  refine List.mem_iff_getElem?.2 ⟨k,?_⟩
  rw [List.getElem?_zip_eq_some]
  exact ⟨by rw [List.getElem?_range hk],h⟩
theorem zIM (R:List Nat):(lentP R).map (·.2)=R:=zJw _ _ (by simp)
theorem zMV {R:List Nat} (hn:R.Nodup) {k r:Nat} (h:R[k]?=some r):renP (lentP R) r=some k:=(zFU (by rw [zIM]; exact hn)).2 (zIL.2 h)
theorem zUw {R:List Nat} (hn:R.Nodup) {r:Nat} (h:r ∉ R):renP (lentP R) r=none:=by
 cases hr:renP (lentP R) r with
 | none=>rfl
 | some k =>
  have:=(zFU (by rw [zIM]; exact hn)).1 hr
  exact absurd (List.mem_of_getElem? (zIL.1 this)) h
theorem zOs {R:List Nat} (hn:R.Nodup) {b:Nat} {l:Loc} (h:γ.own b=some l) (hl:∀ r,(l=.hd r∨∃ i,l=.row r i)→r ∉ R):(zBe γ R).own b=none:=by
 simp only [zBe,h,Option.bind_some]
 cases l with
 | hd r=>simp only [renL,zUw hn (hl r (.inl rfl)),Option.map_none]
 | row r i=>simp only [renL,zUw hn (hl r (.inr ⟨i,rfl⟩)),Option.map_none]
 | bx b=>rfl
 | mk d=>rfl
theorem zGH {R:List Nat} {Z:Nat→Prop} {b:Nat} (hz:Z b) (h:(zBe γ R).own b=none):(zB9 C γ R w Z).zn (zBe γ R) b:=⟨.inl hz,h⟩
theorem zKG (h:Rel C γ s a w) {R:List Nat} {Z:Nat→Prop} (hn:R.Nodup) {sv:SV} {v:Value} {sh:Sh} {x:sh.T} (hv:svRep C γ w sv v) (hb:zDW s sh sv=some x) (ho:offR R sv=true) (hZ:(∀ g,Z g)∨(zAN sv=true∧∀ g,C.zn γ g→Z g)) :
 vrep w ((zB9 C γ R w Z).zn (zBe γ R)) sh x v:=by
 have hz0:∀ g,C.zn γ g→(zB9 C γ R w Z).zn (zBe γ R) g:=fun g hg=>zGH (hZ.elim (fun h=>h g) (fun h=>h.2 g hg)) (by simp only [zBe,hg.2,Option.bind_none])
 unfold zDW at hb
 split at hb
 ·rename_i b
  replace hv:bvRep C γ w b v:=hv
  have hoff:∀ r∈names b,r ∉ R:=by
   intro r hr hR
   simp only [offR,Bool.not_eq_true',List.any_eq_false] at ho
   exact ho r hr (by simpa using hR)
  unfold zE1 at hb
  split at hb
  ·obtain ⟨rfl,rfl⟩:=zBm hb
   exact zAq hz0 hv
  ·split at hb
   ·simp only [Option.some.injEq] at hb
    subst hb
    simp only [bvRep] at hv
    exact ⟨[v],⟨none,0,by rw [hv]; rfl,Nat.le_refl _,Nat.zero_le _,fun i hi=>by simp at hi⟩,rfl⟩
   ·cases hb
  ·split at hb
   ·simp only [Option.some.injEq] at hb
    subst hb
    simp only [bvRep] at hv
    exact ⟨_,rfl,by rw [hv]; rfl⟩
   ·cases hb
  ·rename_i r
   have hZ:∀ g,Z g:=hZ.elim id (fun h=>by simp [zAN] at h)
   have hr0:r ∉ R:=hoff r (by simp [names])
   have hz:∀ (u:Value) (l:Loc),(l=.hd r∨∃ i,l=.row r i)→ownB C γ u l→∀ g,u.ownBlock=some g→(zB9 C γ R w Z).zn (zBe γ R) g:=fun u l hl ho g hg =>
    zGH (hZ g) (zOs hn (ho g hg).1 fun q hq=>by
     rcases hl with rfl|⟨i,rfl⟩<;>rcases hq with hq|⟨j,hq⟩<;>simp at hq<;>(first|(subst hq; exact hr0)|(rw [←hq.1]; exact hr0)))
   simp only [bvRep] at hv
   split at hb
   ·rename_i e a' xs hr
    obtain ⟨rfl,rfl⟩:=zBm hb
    obtain ⟨hf,h1,h2⟩:=h.roots r _ hr
    exact ⟨[v],by rw [hv]; exact zBk hf h1 (hz _ _ (.inl rfl) h2),rfl⟩
   ·rename_i e e2 a' xss hr
    obtain ⟨rfl,rfl⟩:=zBm hb
    obtain ⟨hf,h1,h2,h3⟩:=h.roots r _ hr
    exact ⟨[v],by rw [hv]; exact zGi hf h1 (hz _ _ (.inl rfl) h2) (fun i xs hi=>⟨(h3 i xs hi).1,hz _ _ (.inr ⟨i,rfl⟩) (h3 i xs hi).2⟩),rfl⟩
   ·cases hb
  ·rename_i r i
   have hZ:∀ g,Z g:=hZ.elim id (fun h=>by simp [zAN] at h)
   have hr0:r ∉ R:=hoff r (by simp [names])
   simp only [bvRep] at hv
   split at hb
   ·rename_i e e2 a' xss hr
    split at hb
    ·rename_i hi
     obtain ⟨rfl,rfl⟩:=zBm hb
     obtain ⟨hf,h1,h2,h3⟩:=h.roots r _ hr
     have hgi:xss.getD i []=xss[i]:=by simp [List.getD_eq_getElem?_getD,hi]
     obtain ⟨k1,k2⟩:=h3 i xss[i] (by simp [hi])
     refine ⟨[v],?_,rfl⟩
     rw [hv]
     show pers w _ (.sl a') (xss.getD i []) [γ.rows r i]
     rw [hgi]
     exact zBk hf k1 (fun g hg=>zGH (hZ g) (zOs hn (k2 g hg).1 fun q hq=>by
      rcases hq with hq|⟨j,hq⟩<;>simp at hq
      rw [←hq.1]; exact hr0))
    ·cases hb
   ·cases hb
  ·cases hb
 ·cases hb
theorem zTx (h:Rel C γ s a w) {R:List Nat} (hn:R.Nodup) {k r:Nat} (hk:R[k]?=some r) {Z:Nat→Prop} {rc:RC} (hr:s.roots r=some rc) (hwh:whole rc=true):rcRep (zB9 C γ R w Z) (zBe γ R) w k rc:=by
 have hg:R.getD k 0=r:=by rw [List.getD_eq_getElem?_getD,hk]; rfl
 have hhd:(zBe γ R).hd k=γ.hd r:=by simp only [Gam.hd,zBe,hg]
 have hrow:∀ i,(zBe γ R).rows k i=γ.rows r i:=fun i=>by simp only [Gam.rows,zBe,hg]
 have hrf:∀ m,zAY (zBe γ R) k m=zAY γ r m:=fun m=>by simp [zAY,hrow]
 have o1:∀ v,ownB C γ v (.hd r)→ownB (zB9 C γ R w Z) (zBe γ R) v (.hd k):=fun v ho b hb=>by
  obtain ⟨e1,e2⟩:=ho b hb
  have e3:(γ.own b).bind (renL (lentP R))=some (.hd k):=by rw [e1]; simp only [Option.bind_some,renL,zMV hn hk,Option.map_some]
  exact ⟨e3,.inr ⟨by simp only [lentB,e3,Option.isSome_some],e2⟩⟩
 have o2:∀ v i,ownB C γ v (.row r i)→ownB (zB9 C γ R w Z) (zBe γ R) v (.row k i):=fun v i ho b hb=>by
  obtain ⟨e1,e2⟩:=ho b hb
  have e3:(γ.own b).bind (renL (lentP R))=some (.row k i):=by rw [e1]; simp only [Option.bind_some,renL,zMV hn hk,Option.map_some]
  exact ⟨e3,.inr ⟨by simp only [lentB,e3,Option.isSome_some],e2⟩⟩
 have h0:=h.roots r rc hr
 cases rc with
 | flat e sh xs=>exact ⟨h0.1,by rw [hhd]; exact h0.2.1,by rw [hhd]; exact o1 _ h0.2.2⟩
 | deep e e2 sh xss=>exact ⟨h0.1,by rw [hhd,hrf]; exact h0.2.1,by rw [hhd]; exact o1 _ h0.2.2.1,fun i xs hi=>by
  have h4:=h0.2.2.2 i xs hi
  unfold zCb at *
  rw [hrow]
  exact ⟨h4.1,o2 _ i h4.2⟩⟩
 | hole e e2 sh xss m=>exact ⟨h0.1,by rw [hhd,hrf]; exact h0.2.1,by rw [hhd]; exact o1 _ h0.2.2.1,fun i xs hne hi=>by
  have h4:=h0.2.2.2 i xs hne hi
  unfold zCb at *
  rw [hrow]
  exact ⟨h4.1,o2 _ i h4.2⟩⟩
 | rags e sh xss=>simp [whole] at hwh
theorem zHZ (h:Rel C γ s a w) {R:List Nat} (hn:R.Nodup):∀ (as_:List Sh) (ids:List Nat) (y:TupT as_),zIW s R ids=true→zBj s as_ ids=some y →
 zBC w ((zB9 C γ R w fun _=>True).zn (zBe γ R)) as_ y (ids.map fun b=>Value.pointer (some ⟨γ.bx b,0,none⟩))
 | [],[],_,_,_=>rfl
 | [],_::_,_,_,hb=>by simp [zBj] at hb
 | _::_,[],_,_,hb=>by simp [zBj] at hb
 | sh::as_,b::bs,y,ho,hb=>by
  simp only [zBj] at hb
  simp only [zIW,Bool.and_eq_true] at ho
  split at hb
  ·rename_i x1 x2 h1 h2
   simp only [Option.some.injEq] at hb
   subst hb
   refine ⟨_,_,rfl,?_,zHZ h hn as_ bs x2 ho.2 h2⟩
   simp only [zEV] at h1
   split at h1
   ·rename_i bv hbx
    obtain ⟨cs,t,d1,⟨v',d2,d2'⟩,d3,d4,d5⟩:=h.boxes b _ hbx
    have ho1:offR R (.one bv)=true:=by simpa [hbx] using ho.1
    obtain ⟨cs',k1,k2⟩:=zKG (Z:=fun _=>True) (sv:=.one bv) h hn d2 h1 ho1 (.inl fun _=>trivial)
    refine ⟨γ.bx b,0,cs',rfl,zGH trivial (by simp only [zBe,d4,Option.bind_some,renL]),h.ownlt _ _ d4,k1,fun j c hj=>?_⟩
    rw [Nat.zero_add,cell_of_row w _ j cs t (0,0) d1]
    rw [k2,zA7 sh x1 cs' k1] at d2'
    rw [←d2'] at hj
    simpa using hj
   ·cases h1
  ·cases hb
theorem zHN {w':World} {Z L:Nat→Prop} (k:Keep L w w') (hZ:∀ b,Z b→¬L b):∀ (as_:List Sh) (y:TupT as_) (ps:List Value),zBC w Z as_ y ps→zBC w' Z as_ y ps
 | [],_,_,h=>h
 | sh::as_,y,ps,h=>by
  obtain ⟨v,vs,rfl,⟨b,off,cs,h1,h2,h3,h4,h5⟩,h6⟩:=h
  have hb:w'.heap[b]?=w.heap[b]?:=k.block b h3 (hZ b h2)
  refine ⟨v,vs,rfl,⟨b,off,cs,h1,h2,Nat.lt_of_lt_of_le h3 k.size,zAx k.size (fun g hg hz=>⟨hz,k.block g hg (hZ g hz)⟩) sh _ cs h4,fun j c hj=>?_⟩,zHN k hZ as_ y.2 vs h6⟩
  rw [World.cell?_of_block (w:=w) (w':=w') (a:=⟨b,off+j,none⟩) hb]
  exact h5 j c hj
theorem zHO {Z Z':Nat→Prop} (h:∀ b,Z b→Z' b):∀ (as_:List Sh) (y:TupT as_) (ps:List Value),zBC w Z as_ y ps→zBC w Z' as_ y ps
 | [],_,_,hv=>hv
 | _::as_,y,ps,hv=>by
  obtain ⟨v,vs',rfl,⟨b,off,cs,h1,h2,h3,h4,h5⟩,h6⟩:=hv
  exact ⟨v,vs',rfl,⟨b,off,cs,h1,h b h2,h3,zAx (Nat.le_refl _) (fun b _ hz=>⟨h b hz,rfl⟩) _ _ cs h4,h5⟩,zHO h as_ y.2 vs' h6⟩
theorem zR8 (hE:KnowOK C.P E) (h:Rel C γ s a w) {R:List Nat} {Z:Nat→Prop} (hn:R.Nodup) {as_:List Sh} {r:Sh} {sv:SV} {v:Value} {f:(TupT as_→Prop)×(TupT as_→r.T)} (hv:svRep C γ w sv v) (ho:offFn s R sv=true) (hb:zF7 E s as_ r sv=some f) :
 FnOK C.P (zB9 C γ R w Z).L w as_ r f.1 f.2 v:=by
 unfold zF7 at hb
 split at hb
 ·obtain ⟨rfl,rfl,rfl⟩:=zGa hb
  obtain ⟨g,pre,caps,h1,h2,h3⟩:=hv
  exact ⟨g,pre,caps,h1,h2,fun w1 Z x vs hk=>h3 w1 Z x vs (h.keep.step hk (fun b hM hb=>hM.2.resolve_left (by omega)))⟩
 ·rename_i g caps
  split at hb
  ·rename_i c hc
   split at hb
   ·rename_i hflat
    split at hb
    ·rename_i y hy
     obtain ⟨e1,e2,e3⟩:=zGa hb
     subst e1
     subst e2
     simp only at e3
     subst e3
     have hs:=hE.clo g c hc
     simp only [svRep,bvRep] at hv
     refine ⟨g,_,_,hv,hs.callable,fun w1 Z1 x vs hk hgd hq hargs=>?_⟩
     have hps:=zHZ h hn c.caps caps y ho hy
     have hps2:=zHO (Z':=fun _=>True) (fun _ _=>trivial) _ _ _ (zHN hk (fun b hb hL=>by
      have h1:=hb.2
      have h2:=hL.1
      simp only [zBe] at h1
      simp only [lentB,h1,Option.isSome_none] at h2
      cases h2) _ _ _ hps)
     have:=hs.run w1 (fun _=>True) y x _ vs hgd hq hps2 (zCs (fun _ _=>trivial) _ _ _ hargs)
     have e:(vs++caps.map fun b=>Value.pointer (some ⟨γ.bx b,0,none⟩)).toArray=#[]++vs.toArray++(caps.map fun b=>Value.pointer (some ⟨γ.bx b,0,none⟩)).toArray:=by simp
     rw [←e]
     refine this.mono fun e w2 hx=>?_
     obtain ⟨u,h1,h2,h3⟩:=hx
     exact ⟨u,h1,zCq hflat h2,h3⟩
    ·cases hb
   ·cases hb
  ·cases hb
 ·rename_i g sh x
  split at hb
  ·rename_i a l r' q p hc
   split at hb
   ·rename_i hflat
    split at hb
    ·rename_i y hy
     obtain ⟨e1,e2,e3⟩:=zGa hb
     subst e1
     subst e2
     simp only at e3
     subst e3
     obtain ⟨rfl,rfl⟩:∃ e:sh=a,y=e ▸ x:=by
      unfold zAT at hy
      split at hy
      ·rename_i e; exact ⟨e,by simpa using hy.symm⟩
      ·cases hy
     have hs:=hE.clo g _ hc
     obtain ⟨u,hu,hv⟩:=hv
     refine ⟨g,_,_,hu,hs.callable,fun w1 Z1 z vs hk hgd hq hargs=>?_⟩
     have hv':vrep w1 (fun _=>True) sh y u:=by
      obtain ⟨cs,k1,k2⟩:=hv
      exact ⟨cs,zAx hk.size (fun b hb hz=>⟨trivial,hk.block b hb (fun hL=>by have h1:=hz.2; have h2:=hL.1; simp only [lentB,h1,Option.isSome_none] at h2; cases h2)⟩) sh y cs k1,k2⟩
     have:=hs.run w1 (fun _=>True) () (y,z) [] (u::vs) hgd hq rfl ⟨u,vs,rfl,hv',zCs (fun _ _=>trivial) _ _ _ hargs⟩
     have e:(u::vs++[]).toArray=#[u]++vs.toArray++#[]:=by simp
     rw [←e]
     refine this.mono fun e w2 hx=>?_
     obtain ⟨u',h1,h2,h3⟩:=hx
     exact ⟨u',h1,zCq hflat h2,h3⟩
    ·cases hb
   ·cases hb
  ·cases hb
 ·cases hb
theorem zKF (hE:KnowOK C.P E) (h:Rel C γ s a w) {R:List Nat} {Z:Nat→Prop} (hn:R.Nodup):∀ (as_:List AD) (svs:List SV) (vs:List Value) (x:TupA as_) (k:Nat),zAM as_ svs=R.drop k→zEB E s R as_ svs=some x→svs.length=vs.length →
 (∀ (i:Nat) (sv:SV) (v:Value),svs[i]?=some sv→vs[i]?=some v→svRep C γ w sv v)→((∀ g,Z g)∨(zCn as_ svs=true∧∀ g,C.zn γ g→Z g)) →
 zAp (zB9 C γ R w Z) (zBe γ R) w (zAP k as_ x) vs∧(∀ p∈zAC k as_ x,rcRep (zB9 C γ R w Z) (zBe γ R) w p.1 p.2)∧lends as_=(zAM as_ svs).length
 | [],[],[],_,_,_,_,_,_,_=>⟨rfl,fun p hp=>by simp [zAC] at hp,rfl⟩
 | [],[],_::_,_,_,_,_,hl,_,_=>by simp at hl
 | [],_::_,_,_,_,_,hb,_,_,_=>by simp [zEB] at hb
 | _::_,[],_,_,_,_,hb,_,_,_=>by simp [zEB] at hb
 | _::_,_::_,[],_,_,_,_,hl,_,_=>by simp at hl
 | d::as_,sv::svs,v::vs,x,k,hR,hb,hl,hr,hZ=>by
  simp only [zEB] at hb
  split at hb
  ·rename_i x1 x2 h1 h2
   simp only [Option.some.injEq] at hb
   subst hb
   have hv:=hr 0 sv v rfl rfl
   have hrec:=fun k' hk' hz'=>zKF hE h (Z:=Z) hn as_ svs vs x2 k' hk' h2 (by simpa using hl) (fun i sv' v' e1 e2=>hr (i+1) sv' v' (by simpa using e1) (by simpa using e2)) hz'
   cases d with
   | dat sh =>
    simp only [viewL] at h1
    split at h1
    ·rename_i ho
     have hR':zAM as_ svs=R.drop k:=by simpa [zAM] using hR
     obtain ⟨k1,k2,k3⟩:=hrec k hR' (hZ.imp id fun hz=>⟨by have:=hz.1; simp only [zCn,Bool.and_eq_true] at this; exact this.2,hz.2⟩)
     exact ⟨⟨v,vs,rfl,zKG h hn hv h1 ho (hZ.imp id fun hz=>⟨by have:=hz.1; simp only [zCn,Bool.and_eq_true] at this; exact this.1,hz.2⟩),k1⟩,k2,by simpa [lends,zAM] using k3⟩
    ·cases h1
   | obj fs=>simp [viewL] at h1
   | sdat sh=>simp [viewL] at h1
   | lend =>
    obtain ⟨r,rfl,h1'⟩:∃ r,sv=.one (.ref r)∧zHI s r=some x1:=by
     rcases sv with b|b|b<;>first|(cases b<;>first|exact ⟨_,rfl,h1⟩|(exact absurd h1 (by simp [viewL])))|(exact absurd h1 (by simp [viewL]))
    ·skip
     have hR':r::zAM as_ svs=R.drop k:=by simpa [zAM] using hR
     have hk:R[k]?=some r:=by
      have:=congrArg (fun l=>l[0]?) hR'
      simpa using this.symm
     have hR2:zAM as_ svs=R.drop (k+1):=by
      have:=congrArg List.tail hR'
      simpa using this
     obtain ⟨k1,k2,k3⟩:=hrec (k+1) hR2 (hZ.imp id fun hz=>⟨by simpa only [zCn] using hz.1,hz.2⟩)
     have hroot:s.roots r=some x1:=by
      unfold zHI at h1'
      split at h1'
      ·rename_i rc hrc
       split at h1'
       ·rw [hrc]; exact h1'
       ·cases h1'
      ·cases h1'
     refine ⟨⟨v,vs,rfl,?_,k1⟩,fun p hp=>?_,by simp only [lends,zAM,List.length_cons]; rw [k3]⟩
     ·have hv':v=γ.hd r:=hv
      have hg:R.getD k 0=r:=by rw [List.getD_eq_getElem?_getD,hk]; rfl
      show v=(zBe γ R).hd k
      rw [hv']
      simp only [Gam.hd,zBe,hg]
     ·rcases List.mem_cons.1 hp with rfl|hp
      ·exact zTx h hn hk hroot (zCW h1').2
      ·exact k2 p hp
   | ptr sh=>simp [viewL] at h1
   | fnc l r =>
    simp only [viewL] at h1
    split at h1
    ·rename_i ho
     have hR':zAM as_ svs=R.drop k:=by simpa [zAM] using hR
     obtain ⟨k1,k2,k3⟩:=hrec k hR' (hZ.imp id fun hz=>⟨by simpa only [zCn] using hz.1,hz.2⟩)
     exact ⟨⟨v,vs,rfl,zR8 hE h hn hv ho h1,k1⟩,k2,by simpa [lends,zAM] using k3⟩
    ·cases h1
   | pfn l r=>simp [viewL] at h1
   | nilp=>simp [viewL] at h1
  ·cases hb
theorem zC0 {R:List Nat}:∀ (as_:List AD) (svs:List SV) (x:TupA as_) (k:Nat),zEB E s R as_ svs=some x→zAQ k as_ x=[]
 | [],[],_,_,_=>rfl
 | [],_::_,_,_,hb=>by simp [zEB] at hb
 | _::_,[],_,_,hb=>by simp [zEB] at hb
 | d::as_,sv::svs,x,k,hb=>by
  simp only [zEB] at hb
  split at hb
  ·rename_i x1 x2 h1 h2
   cases d with
   | obj fs=>simp [viewL] at h1
   | sdat sh=>simp [viewL] at h1
   | nilp=>simp [viewL] at h1
   | lend=>simp only [Option.some.injEq] at hb; subst hb; exact zC0 as_ svs x2 (k+1) h2
   | dat sh=>simp only [Option.some.injEq] at hb; subst hb; exact zC0 as_ svs x2 k h2
   | ptr sh=>simp only [Option.some.injEq] at hb; subst hb; exact zC0 as_ svs x2 k h2
   | fnc l r=>simp only [Option.some.injEq] at hb; subst hb; exact zC0 as_ svs x2 k h2
   | pfn l r=>simp only [Option.some.injEq] at hb; subst hb; exact zC0 as_ svs x2 k h2
  ·cases hb
theorem zTw (hE:KnowOK C.P E) (h:Rel C γ s a w) {Z:Nat→Prop} {as_:List AD} {svs:List SV} {vs:List Value} {x:TupA as_} (hn:(zAM as_ svs).Nodup) (hv:zEB E s (zAM as_ svs) as_ svs=some x) (hl:svs.length=vs.length)
 (hr:∀ (i:Nat) (sv:SV) (v:Value),svs[i]?=some sv→vs[i]?=some v→svRep C γ w sv v) (hZ:(∀ g,Z g)∨(zCn as_ svs=true∧∀ g,C.zn γ g→Z g)) :
 Entry (zB9 C γ (zAM as_ svs) w Z) (zBe γ (zAM as_ svs)) C.P as_ x vs:=by
 obtain ⟨k1,k2,k3⟩:=zKF hE h hn as_ svs vs x 0 rfl hv hl hr hZ
 have ho0:=zC0 (E:=E) (s:=s) as_ svs x 0 hv
 refine ⟨rfl,k3.symm,⟨rfl,h.defers.2.at h.keep,fun k hk=>by have h7:=h.defers.2; exact hk.2.elim (fun e n hn hg=>absurd (h7.gd.size n hn k hg) (Nat.not_lt.mpr e)) (h7.off k)⟩,fun r _=>⟨rfl,rfl⟩,fun k l hk=>?_,k1,k2,fun p hp=>by rw [ho0] at hp; simp at hp⟩
 simp only [zBe] at hk
 cases ho:γ.own k with
 | none=>rw [ho] at hk; simp at hk
 | some l'=>exact h.ownlt k l' ho
def zBq (γ γ':Gam) (R:List Nat) (l:List (Nat×Nat)) (n:Nat):Gam :=
 ⟨fun p=>match invP l p with|some r=>γ'.hs r|none=>γ.hs p,fun p=>match invP l p with|some r=>γ'.rs r|none=>γ.rs p,γ.bx,fun b=>if n≤b∨lentB γ R b=true then (γ'.own b).bind (renL l) else γ.own b⟩
theorem zHH {γ':Gam} {w':World} {Z:Nat→Prop} {R:List Nat} {l:List (Nat×Nat)} (h1:(l.map (·.1)).Nodup) (h2:(l.map (·.2)).Nodup) (hk:C.w0.heap.size≤w.heap.size) {p r:Nat} (hm:(p,r)∈l) {rc:RC} (h:zKk (zB9 C γ R w Z) γ' w' r rc) :
 rcRep C (zBq γ γ' R l w.heap.size) w' p rc:=by
 obtain ⟨h,hwh⟩:=h
 have hi:=(zC4 h1).2 hm
 have hr:=(zFU h2).2 hm
 have hhd:(zBq γ γ' R l w.heap.size).hd p=γ'.hd r:=by simp [Gam.hd,zBq,hi]
 have hrow:∀ i,(zBq γ γ' R l w.heap.size).rows p i=γ'.rows r i:=fun i=>by simp [Gam.rows,zBq,hi]
 have hrf:∀ m,zAY (zBq γ γ' R l w.heap.size) p m=zAY γ' r m:=fun m=>by simp [zAY,hrow]
 have hB:∀ k,(w.heap.size≤k∨(lentB γ R k=true∧(C.w0.heap.size≤k∨C.L k)))→(w.heap.size≤k∨lentB γ R k=true)∧(C.w0.heap.size≤k∨C.L k):=fun k e=>by
  rcases e with e|e
  ·exact ⟨.inl e,.inl (Nat.le_trans hk e)⟩
  ·exact ⟨.inr e.1,e.2⟩
 have ho1:∀ v,ownB (zB9 C γ R w Z) γ' v (.hd r)→ownB C (zBq γ γ' R l w.heap.size) v (.hd p):=by
  intro v ho k hv
  obtain ⟨e1,e2⟩:=ho k hv
  obtain ⟨e3,e4⟩:=hB k e2
  exact ⟨by simp [zBq,e3,e1,renL,hr],e4⟩
 have ho2:∀ v i,ownB (zB9 C γ R w Z) γ' v (.row r i)→ownB C (zBq γ γ' R l w.heap.size) v (.row p i):=by
  intro v i ho k hv
  obtain ⟨e1,e2⟩:=ho k hv
  obtain ⟨e3,e4⟩:=hB k e2
  exact ⟨by simp [zBq,e3,e1,renL,hr],e4⟩
 cases rc with
 | flat e sh xs=>exact ⟨h.1,by rw [hhd]; exact h.2.1,by rw [hhd]; exact ho1 _ h.2.2⟩
 | deep e e2 sh xss=>exact ⟨h.1,by rw [hhd,hrf]; exact h.2.1,by rw [hhd]; exact ho1 _ h.2.2.1,fun i xs hx=>by
  have h4:=h.2.2.2 i xs hx
  unfold zCb at *
  rw [hrow]
  exact ⟨h4.1,ho2 _ i h4.2⟩⟩
 | hole e e2 sh xss k=>exact ⟨h.1,by rw [hhd,hrf]; exact h.2.1,by rw [hhd]; exact ho1 _ h.2.2.1,fun i xs hne hx=>by
  have h4:=h.2.2.2 i xs hne hx
  unfold zCb at *
  rw [hrow]
  exact ⟨h4.1,ho2 _ i h4.2⟩⟩
 | rags e sh xss=>simp [whole] at hwh
theorem zFq {f:Nat→Nat}:∀ {l:List Nat},(∀ a∈l,∀ b∈l,f a=f b→a=b)→l.Nodup→(l.map f).Nodup
 | [],_,_=>by simp
 | x::l,hf,h=>by
  simp only [List.nodup_cons] at h
  simp only [List.map_cons,List.nodup_cons]
  refine ⟨fun hm=>?_,zFq (fun a ha b hb=>hf a (List.mem_cons_of_mem _ ha) b (List.mem_cons_of_mem _ hb)) h.2⟩
  obtain ⟨y,hy,e⟩:=List.mem_map.1 hm
  have:=hf y (List.mem_cons_of_mem _ hy) x (List.mem_cons_self ..) e
  exact h.1 (this ▸ hy)
theorem zV0 {R:List Nat} (hn:R.Nodup) {b:Nat} {l:Loc} (h:γ.own b=some l) (hb:lentB γ R b=true):∃ r,l.root=some r∧r∈R:=by
 by_cases hl:∃ r,(l=.hd r∨∃ i,l=.row r i)∧r∈R
 ·obtain ⟨r,h1,h2⟩:=hl
  rcases h1 with rfl|⟨i,rfl⟩<;>exact ⟨r,rfl,h2⟩
 ·exfalso
  have:=zOs hn h (fun r h1 h2=>hl ⟨r,h1,h2⟩)
  simp only [zBe] at this
  simp only [lentB,this,Option.isSome_none] at hb
  cases hb
theorem zLd {γ2:Gam} {l R:List Nat} (hh:∀ p,p ∉ l→γ2.hd p=γ.hd p) (hr:∀ p i,p ∉ l→p ∉ R→γ2.rows p i=γ.rows p i) (hb:∀ x,γ2.bx x=γ.bx x):Forgets (killL l R) γ γ2:=by
 intro b
 unfold killL
 split
 ·exact .inl rfl
 ·rename_i hn
  have hn':∀ r∈names b,r ∉ l:=by
   intro r hr' hl
   exact hn (List.any_eq_true.2 ⟨r,hr',by simpa using hl⟩)
  cases b with
  | refi q i =>
   simp only
   split
   ·exact .inl rfl
   ·rename_i hq
    exact .inr ⟨rfl,hr _ _ (hn' _ (List.mem_singleton.2 rfl)) (by simpa using hq)⟩
  | adri q i j sz =>
   simp only
   split
   ·exact .inl rfl
   ·rename_i hq
    exact .inr ⟨rfl,hr _ _ (hn' _ (List.mem_singleton.2 rfl)) (by simpa using hq)⟩
  | _ =>
   right
   refine ⟨rfl,?_⟩
   first
    | trivial
    | (exact hb _)
    | (exact fun x _=>hb x)
    | (exact hh _ (hn' _ (List.mem_singleton.2 rfl)))
theorem zNM (hE:KnowOK C.P E) (hspec:FnSpec C.P f c) (h:Rel C γ s a w) (d:Option Tmp) (svs:List SV) (vs:List Value) (hl:svs.length=vs.length)
 (hr:∀ (i:Nat) (sv:SV) (v:Value),svs[i]?=some sv→vs[i]?=some v→svRep C γ w sv v) (hok:(callL E C.nl s d c svs).1) :
 zBf C.P f∧Calls C.P f vs.toArray w (fun e w'=>∃ v γ2,e=.returned v∧Rel C γ2 (callL E C.nl s d c svs).2.1 a w'∧svRep C γ2 w' (callL E C.nl s d c svs).2.2 v):=by
 unfold callL at hok ⊢
 generalize hRd:zAM c.as_ svs=R at hok ⊢
 cases hv:zEB E s R c.as_ svs with
 | none=>rw [hv] at hok; exact hok.elim
 | some x =>
  rw [hv] at hok
  simp only at hok ⊢
  obtain ⟨hpre,hnR,hleft,hdis,hnl,hnob⟩:=hok
  refine ⟨hspec.callable,?_⟩
  let Z:Nat→Prop:=if zCn c.as_ svs=true then C.zn γ else fun _=>True
  have hZ:(∀ g,Z g)∨(zCn c.as_ svs=true∧∀ g,C.zn γ g→Z g):=by
   by_cases hs:zCn c.as_ svs=true
   ·right
    exact ⟨hs,fun g hg=>by simp only [Z,hs,if_true]; exact hg⟩
   ·left
    intro g
    simp only [Z,hs]
    trivial
  have hent:=zTw hE h (Z:=Z) (by rw [hRd]; exact hnR) (by rw [hRd]; exact hv) hl hr hZ
  rw [hRd] at hent
  refine (hspec.run _ _ x vs hpre hent).mono fun e w' hx=>?_
  obtain ⟨v,γ',rfl,⟨⟨ids,bids,us,rfl,hres,hnd,_⟩,hlf,_,holt⟩,hkeep⟩:=hx
  have hkeep':Keep (fun b=>lentB γ R b=true∧(C.w0.heap.size≤b∨C.L b)) w w':=hkeep
  have hlen:=zCy (d.getD 0) (c.post x).res 0 ids bids us hres
  generalize hrd:(zAs (d.getD 0) 0 (c.post x).res).map (·.1)=rids at hdis ⊢
  have hll:rids.length=ids.length:=by rw [←hrd,List.length_map]; exact hlen.symm
  have hl1:(rids.zip ids++((c.post x).left.map fun p=>(R.getD p.1 0,p.1))).map (·.1)=rids++(c.post x).left.map fun p=>R.getD p.1 0:=by rw [List.map_append,zHw _ _ hll,List.map_map]; rfl
  have hl2:(rids.zip ids++((c.post x).left.map fun p=>(R.getD p.1 0,p.1))).map (·.2)=ids++(c.post x).left.map (·.1):=by rw [List.map_append,zJw _ _ hll,List.map_map]; rfl
  generalize hle:rids.zip ids++((c.post x).left.map fun p=>(R.getD p.1 0,p.1))=l at hl1 hl2
  have hgm:∀ k,k<R.length→R[k]?=some (R.getD k 0):=fun k hk=>by rw [List.getD_eq_getElem?_getD,List.getElem?_eq_getElem hk]; rfl
  have hgR:∀ p∈(c.post x).left,R.getD p.1 0∈R:=fun p hp=>List.mem_of_getElem? (hgm p.1 (hleft p hp))
  have hlR:∀ q∈(c.post x).left.map (fun p=>R.getD p.1 0),q∈R:=fun q hq=>by
   obtain ⟨p,hp,rfl⟩:=List.mem_map.1 hq
   exact hgR p hp
  have hnL:((c.post x).left.map fun p=>R.getD p.1 0).Nodup:=by
   have h0:=(List.nodup_append.1 hnd).2.1
   have e:(c.post x).left.map (fun p=>R.getD p.1 0)=((c.post x).left.map (·.1)).map (fun k=>R.getD k 0):=by rw [List.map_map]; rfl
   rw [e]
   refine zFq (fun a ha b hb e=>?_) h0
   obtain ⟨p,hp,rfl⟩:=List.mem_map.1 ha
   obtain ⟨q,hq,rfl⟩:=List.mem_map.1 hb
   have h1:=hgm _ (hleft p hp)
   have h2:=hgm _ (hleft q hq)
   rw [e,←h2] at h1
   exact (List.getElem?_inj (hleft p hp) hnR).1 h1
  have hn1:(l.map (·.1)).Nodup:=by
   rw [hl1]
   refine List.nodup_append.2 ⟨by rw [←hrd]; exact zBZ _ _ _,hnL,fun p hp q hq e=>?_⟩
   subst e
   exact hdis p (hlR p hq) hp
  have hn2:(l.map (·.2)).Nodup:=by rw [hl2]; exact hnd
  have hridge:∀ p∈rids,C.nl≤p:=by
   intro p hp
   rcases hnl with hnl|hnl
   ·rw [←hrd,hnl] at hp
    simp at hp
   ·rw [←hrd] at hp
    obtain ⟨k,_,h2⟩:=zCz _ _ _ p hp
    rw [h2]; unfold rid; omega
  have hinv':∀ p,p ∉ rids→p ∉ R→invP l p=none:=fun p hp hp2=>by
   cases hi:invP l p with
   | none=>rfl
   | some r =>
    have:=(zC4 hn1).1 hi
    have h3:p∈l.map (·.1):=List.mem_map.2 ⟨_,this,rfl⟩
    rw [hl1] at h3
    rcases List.mem_append.1 h3 with h3|h3
    ·exact absurd h3 hp
    ·exact absurd (hlR p h3) hp2
  have hRk:∀ p∈(c.post x).left,(R.getD p.1 0,p.1)∈l:=fun p hp=>by
   rw [←hle]
   exact List.mem_append.2 (.inr (List.mem_map.2 ⟨p,hp,rfl⟩))
  have hhdR:∀ p,p ∉ rids→(zBq γ γ' R l w.heap.size).hd p=γ.hd p:=fun p hp=>by
   cases hi:invP l p with
   | none=>simp only [Gam.hd,zBq,hi]
   | some k =>
    have h1:=(zC4 hn1).1 hi
    rw [←hle] at h1
    rcases List.mem_append.1 h1 with h1|h1
    ·exact absurd (by rw [←zHw rids ids hll]; exact List.mem_map.2 ⟨_,h1,rfl⟩) hp
    ·obtain ⟨q,hq,e⟩:=List.mem_map.1 h1
     simp only [Prod.mk.injEq] at e
     have h3:=(hlf q hq).2
     have h3':γ'.hd q.1=γ.hd (R.getD q.1 0):=h3
     rw [e.1,e.2] at h3'
     rw [←h3']
     simp only [Gam.hd,zBq,hi]
  have hsame:∀ b,b<w.heap.size→lentB γ R b≠true→(zBq γ γ' R l w.heap.size).own b=γ.own b:=fun b hb hb2=>by
   simp only [zBq]
   rw [if_neg (by rintro (e|e); exact absurd e (by omega); exact hb2 e)]
  have hblk:∀ b,b<w.heap.size→lentB γ R b≠true→w'.heap[b]?=w.heap[b]?:=fun b hb hb2=>hkeep'.block b hb (fun e=>hb2 e.1)
  have hnone:∀ b,γ.own b=none→lentB γ R b≠true:=fun b hb=>by simp [lentB,hb]
  have m:Move C γ w (zBq γ γ' R l w.heap.size) w' (fun p=>p∈rids∨p∈R):=by
   refine ⟨⟨hkeep'.size,fun b hb hz=>⟨⟨hz.1,by rw [hsame b hb (hnone b hz.2)]; exact hz.2⟩,hblk b hb (hnone b hz.2)⟩,fun b d hb ho=>?_⟩,h.keep.step hkeep' (fun b hM hb=>hM.2.resolve_left (by omega)),fun k lo hk=>?_,fun r hr=>?_,fun p hp=>?_,fun p i hp=>?_,fun _=>rfl,fun b lo hb hlo=>?_⟩
   ·have:lentB γ R b≠true:=by simp [lentB,ho,renL]
    exact ⟨by rw [hsame b hb this]; exact ho,hblk b hb this⟩
   ·simp only [zBq] at hk
    split at hk
    ·cases ho:γ'.own k with
     | none=>rw [ho] at hk; simp at hk
     | some l'=>exact holt k l' ho
    ·exact Nat.lt_of_lt_of_le (h.ownlt k lo hk) hkeep'.size
   ·rw [hhdR r (fun hp=>by have:=hridge r hp; omega)]
    exact (h.lent r hr).1
   ·exact hhdR p (fun e=>hp (.inl e))
   ·simp only [Gam.rows,zBq,hinv' p (fun e=>hp (.inl e)) (fun e=>hp (.inr e))]
   ·have:lentB γ R b≠true:=fun e=>by
     obtain ⟨r,e1,e2⟩:=zV0 hnR hb e
     exact hlo r e1 (.inr e2)
    exact ⟨by rw [hsame b (h.ownlt b lo hb) this]; exact hb,hblk b (h.ownlt b lo hb) this⟩
  have hzn:zCn c.as_ svs=true→∀ b,(zB9 C γ R w Z).zn γ' b→C.zn (zBq γ γ' R l w.heap.size) b:=fun hs b hb=>by
   have hZs:Z=C.zn γ:=by simp only [Z,hs,if_true]
   have hyes:w.heap.size≤b∨lentB γ R b=true→(zBq γ γ' R l w.heap.size).own b=none:=fun e=>by
    simp only [zBq]
    rw [if_pos e,hb.2]
    rfl
   rcases hb.1 with h1|h1|h1
   ·have h1':Z b:=h1
    rw [hZs] at h1'
    rcases Nat.lt_or_ge b w.heap.size with hlt|hge
    ·exact ⟨h1'.1,by rw [hsame b hlt (hnone b h1'.2)]; exact h1'.2⟩
    ·exact ⟨h1'.1,hyes (.inl hge)⟩
   ·have h1':w.heap.size≤b:=h1
    exact ⟨.inr (.inl (Nat.le_trans h.keep.size h1')),hyes (.inl h1')⟩
   ·have h1':lentB γ R b=true∧(C.w0.heap.size≤b∨C.L b):=h1
    exact ⟨.inr h1'.2,hyes (.inr h1'.1)⟩
  refine ⟨_,zBq γ γ' R l w.heap.size,rfl,?_,zFQ _ _ ?_⟩
  ·refine m.rel h (K:=killL rids R) (zLd hhdR (fun p i hp hp2=>m.rows p i (fun e=>e.elim hp hp2)) m.bx) (roots':=(((s.map (killL rids R)).dropR R).setRoots _).roots) (fun p rc hp=>?_)
   have hfst:((c.post x).left.map fun p=>(R.getD p.1 0,p.2)).map (·.1)=(c.post x).left.map fun p=>R.getD p.1 0:=by rw [List.map_map]; rfl
   simp only [AS.setRoots] at hp
   split at hp
   ·rename_i rc' he
    simp only [Option.some.injEq] at hp
    subst hp
    obtain ⟨v',e1,e2⟩:=zEn (g:=fun x:RC=>x) he
    subst e2
    rcases List.mem_append.1 e1 with e1|e1
    ·obtain ⟨r,e3,e4⟩:=zBO (d.getD 0) (c.post x).res 0 ids bids us hres p rc' e1
     rw [hrd] at e3
     exact .inr (zHH hn1 hn2 h.keep.size (by rw [←hle]; exact List.mem_append.2 (.inl e3)) e4)
    ·obtain ⟨q,hq,e⟩:=List.mem_map.1 e1
     simp only [Prod.mk.injEq] at e
     have h3:=(hlf q hq).1
     have h4:=hRk q hq
     rw [e.1] at h4
     rw [e.2] at h3
     exact .inr (zHH hn1 hn2 h.keep.size h4 h3)
   ·rename_i he
    have hR0:p ∉ R:=fun e=>by
     simp only [AS.dropR] at hp
     rw [if_pos (by simpa using e)] at hp
     cases hp
    have hp':s.roots p=some rc:=by
     simp only [AS.dropR] at hp
     rw [if_neg (by simpa using hR0)] at hp
     exact hp
    refine .inl ⟨fun e=>?_,hp'⟩
    rcases e with e|e
    ·rw [←hrd] at e
     obtain ⟨y,e1,e2⟩:=List.mem_map.1 e
     have:=zIP _ (fun x:RC=>x) y.1 y.2 (by
      rw [List.map_append,hfst,hrd,←hl1]; exact hn1) (List.mem_append.2 (.inl e1))
     rw [e2,he] at this
     cases this
    ·exact hR0 e
  ·refine zCh (C':=zB9 C γ R w Z) (γ':=γ') (d.getD 0) (zCn c.as_ svs) (fun hs b hb=>?_) (c.post x).res 0 ids bids us hres hnob (fun p r hp=>?_)
   ·exact hzn hs b hb
   rw [hrd] at hp
   have:=(zC4 hn1).2 (by rw [←hle]; exact List.mem_append.2 (.inl hp):(p,r)∈l)
   simp only [Gam.hd,zBq,this]
def renLB (l:List (Nat×Nat)):Loc→Option Loc
 | .bx r=>(renP l r).map .bx
 | .mk r=>(renP l r).map .mk
 | _=>none
def zDm (γ:Gam) (R:List Nat):Gam:=⟨fun _=>⟨none,0,0⟩,fun _ _=>⟨none,0,0⟩,fun k=>γ.bx (R.getD k 0),fun b=>(γ.own b).bind (renLB (lentP R))⟩
def objB (γ:Gam) (R:List Nat) (b:Nat):Bool:=((γ.own b).bind (renLB (lentP R))).isSome
def zEY (C:Ctx) (γ:Gam) (R:List Nat) (w:World):Ctx:=⟨C.P,fun b=>objB γ R b=true∧(C.w0.heap.size≤b∨C.L b),w,C.zn γ,R.length,fun _=>.slice none 0 0,fun k=>γ.bx (R.getD k 0),[]⟩
theorem zTX {R:List Nat} (hn:R.Nodup) {b r:Nat} (hr:r∈R) (h:γ.own b=some (.bx r)∨γ.own b=some (.mk r)):objB γ R b=true:=by
 obtain ⟨k,hk⟩:=List.mem_iff_getElem?.1 hr
 have:=zMV hn hk
 rcases h with h|h<;>simp [objB,h,renLB,this]
theorem zWn {R:List Nat} (hn:R.Nodup) {b:Nat} {l:Loc} (h:γ.own b=some l) (hb:objB γ R b=true):∃ r,(l=.bx r∨l=.mk r)∧r∈R:=by
 have hren:∀ r,(renP (lentP R) r).isSome→r∈R:=fun r hr=>by
  cases hp:renP (lentP R) r with
  | none=>rw [hp] at hr; simp at hr
  | some k=>exact List.mem_of_getElem? (zIL.1 ((zFU (by rw [zIM]; exact hn)).1 hp))
 simp only [objB,h,Option.bind_some] at hb
 cases l with
 | hd r=>simp [renLB] at hb
 | row r i=>simp [renLB] at hb
 | bx r=>exact ⟨r,.inl rfl,hren r (by simpa [renLB] using hb)⟩
 | mk r=>exact ⟨r,.inr rfl,hren r (by simpa [renLB] using hb)⟩
theorem zLl {R:List Nat} {b:Nat} (h:C.zn γ b):(zEY C γ R w).zn (zDm γ R) b:=⟨.inl h,by simp [zDm,h.2]⟩
theorem zQL {sh:Sh} {b:BV} {v:Value} {x:sh.T} (hb:zPG sh b=some x) (hv:bvRep C γ w b v):vrep w (C.zn γ) sh x v:=by
 unfold zPG at hb
 split at hb
 ·obtain ⟨rfl,rfl⟩:=zBm hb
  exact hv
 ·split at hb
  ·simp only [Option.some.injEq] at hb
   subst hb
   simp only [bvRep] at hv
   exact ⟨[v],⟨none,0,by rw [hv]; rfl,Nat.le_refl _,Nat.zero_le _,fun i hi=>by simp at hi⟩,rfl⟩
  ·cases hb
 ·cases hb
theorem zVy {R:List Nat} (hn:R.Nodup) {k b:Nat} (hk:R[k]?=some b) {g:Fd} {bv:BV} {x:g.T} {v:Value} (hb:fdOne b g bv=some x) (hv:bvRep C γ w bv v):bvRep (zEY C γ R w) (zDm γ R) w (fdBV k g x) v:=by
 unfold fdOne at hb
 split at hb
 ·exact zAq (fun _ hz=>zLl hz) (zQL hb hv)
 ·split at hb
  ·rename_i he
   obtain ⟨rfl,rfl⟩:=he
   exact hv
  ·cases hb
 ·split at hb
  ·rename_i he
   obtain ⟨rfl,rfl⟩:=he
   obtain ⟨e1,rfl⟩:=zBm hb
   simp only [Sh.sl.injEq] at e1
   subst e1
   obtain ⟨h1,h2,h3⟩:=hv
   refine ⟨h1,h2,fun g hg=>?_⟩
   have h4:=h3 g hg
   refine ⟨?_,.inr ⟨zTX hn (List.mem_of_getElem? hk) (.inr h4.1),h4.2⟩⟩
   simp [zDm,h4.1,renLB,zMV hn hk]
  ·cases hb
 ·cases hb
theorem fd_in {R:List Nat} (hn:R.Nodup) {k b:Nat} (hk:R[k]?=some b):∀ (fs:List Fd) (bs:List BV) (x:FdT fs) (cs:List Value),asFd b fs bs=some x→zAp C γ w bs cs→zAp (zEY C γ R w) (zDm γ R) w (fdBVs k fs x) cs
 | [],[],_,cs,_,h=>h
 | [],_::_,_,_,hb,_=>by simp [asFd] at hb
 | _::_,[],_,_,hb,_=>by simp [asFd] at hb
 | g::fs,bv::bs,x,cs,hb,h=>by
  simp only [asFd] at hb
  split at hb
  ·rename_i x1 x2 h1 h2
   simp only [Option.some.injEq] at hb
   subst hb
   obtain ⟨v,vs,rfl,h3,h4⟩:=h
   exact ⟨v,vs,rfl,zVy hn hk h1 h3,fd_in hn hk fs bs x2 vs h2 h4⟩
  ·cases hb
theorem zYv (h:Rel C γ s a w) {R:List Nat} (hn:R.Nodup) {k b:Nat} (hk:R[k]?=some b) {fs:List Fd} {bs:List BV} {x:FdT fs} (hs:s.boxes b=some (.rcd bs)) (hb:asFd b fs bs=some x):bxRep (zEY C γ R w) (zDm γ R) w k (Ob.sv k ⟨fs,x⟩):=by
 obtain ⟨cs,t,h1,h2,h3,h4,h5⟩:=h.boxes b _ hs
 have hg:(zDm γ R).bx k=γ.bx b:=by simp only [zDm,List.getD_eq_getElem?_getD,hk]; rfl
 refine ⟨cs,t,by rw [hg]; exact h1,fd_in hn hk fs bs x _ hb h2,h3,?_,?_⟩<;>rw [hg]
 ·simp [zDm,h4,renLB,zMV hn hk]
 ·exact .inr ⟨zTX hn (List.mem_of_getElem? hk) (.inl h4),h5⟩
theorem zF0 (h:Rel C γ s a w) {R:List Nat} (hn:R.Nodup):∀ (as_:List AD) (svs:List SV) (vs:List Value) (x:TupA as_) (k:Nat),zCl as_ svs=R.drop k→zH0 s as_ svs=some x→svs.length=vs.length →
 (∀ (i:Nat) (sv:SV) (v:Value),svs[i]?=some sv→vs[i]?=some v→svRep C γ w sv v) →
 zAp (zEY C γ R w) (zDm γ R) w (zAP k as_ x) vs∧zAC k as_ x=[]∧lends as_=(zCl as_ svs).length∧∀ p∈zAQ k as_ x,bxRep (zEY C γ R w) (zDm γ R) w p.1 (p.2.sv p.1)
 | [],[],[],_,_,_,_,_,_=>⟨rfl,rfl,rfl,fun p hp=>by simp [zAQ] at hp⟩
 | [],[],_::_,_,_,_,_,hl,_=>by simp at hl
 | [],_::_,_,_,_,_,hb,_,_=>by simp [zH0] at hb
 | _::_,[],_,_,_,_,hb,_,_=>by simp [zH0] at hb
 | _::_,_::_,[],_,_,_,_,hl,_=>by simp at hl
 | d::as_,sv::svs,v::vs,x,k,hR,hb,hl,hr=>by
  simp only [zH0] at hb
  split at hb
  ·rename_i x1 x2 h1 h2
   simp only [Option.some.injEq] at hb
   subst hb
   have hv:=hr 0 sv v rfl rfl
   have hr':=fun i sv' v' (e1:svs[i]?=some sv') (e2:vs[i]?=some v')=>hr (i+1) sv' v' (by simpa using e1) (by simpa using e2)
   cases d with
   | dat sh =>
    simp only [viewO] at h1
    split at h1
    ·rename_i hst
     have hR':zCl as_ svs=R.drop k:=by simpa [zCl] using hR
     obtain ⟨k1,k2,k3,k4⟩:=zF0 h hn as_ svs vs x2 k hR' h2 (by simpa using hl) hr'
     exact ⟨⟨v,vs,rfl,zF1 h hv h1 (.inr ⟨hst,fun _ hz=>zLl hz⟩),k1⟩,k2,by simpa [zCl,lends] using k3,k4⟩
    ·cases h1
   | sdat sh =>
    simp only [viewO] at h1
    split at h1
    ·rename_i hst
     have hR':zCl as_ svs=R.drop k:=by simpa [zCl] using hR
     obtain ⟨k1,k2,k3,k4⟩:=zF0 h hn as_ svs vs x2 k hR' h2 (by simpa using hl) hr'
     exact ⟨⟨v,vs,rfl,zF1 h hv h1 (.inr ⟨hst,fun _ hz=>zLl hz⟩),k1⟩,k2,by simpa [zCl,lends] using k3,k4⟩
    ·cases h1
   | obj fs =>
    cases sv with
    | tup bs=>simp [viewO] at h1
    | rcd bs=>simp [viewO] at h1
    | one bv =>
     cases bv with
     | box b =>
      simp only [viewO] at h1
      split at h1
      ·rename_i bs hbx
       have hRk:R[k]?=some b:=by
        have:=congrArg (fun l=>l[0]?) hR
        simp only [zCl,List.getElem?_cons_zero,List.getElem?_drop,Nat.add_zero] at this
        exact this.symm
       have hR':zCl as_ svs=R.drop (k+1):=by
        have:=congrArg List.tail hR
        simpa [zCl,List.tail_drop] using this
       obtain ⟨k1,k2,k3,k4⟩:=zF0 h hn as_ svs vs x2 (k+1) hR' h2 (by simpa using hl) hr'
       have hg:(zDm γ R).bx k=γ.bx b:=by simp only [zDm,List.getD_eq_getElem?_getD,hRk]; rfl
       refine ⟨⟨v,vs,rfl,?_,k1⟩,k2,by simp only [zCl,lends,List.length_cons,k3],fun p hp=>?_⟩
       ·simp only [svRep,bvRep] at hv
        show v=_
        rw [hg]; exact hv
       ·simp only [zAQ,List.mem_cons] at hp
        rcases hp with rfl|hp
        ·exact zYv h hn hRk hbx h1
        ·exact k4 p hp
      ·cases h1
     | _=>simp [viewO] at h1
   | _=>simp [viewO] at h1
  ·cases hb
def zBK (γ γ':Gam) (R:List Nat) (l:List (Nat×Nat)) (n:Nat):Gam :=
 ⟨γ.hs,γ.rs,fun p=>match invP l p with|some r=>γ'.bx r|none=>γ.bx p,fun b=>if n≤b∨objB γ R b=true then (γ'.own b).bind (renLB l) else γ.own b⟩
theorem zFW (d:Nat):∀ (res:List RV) (j:Nat),∀ p∈(zAS d j res).map (·.1),∃ k,j≤k∧p=rid d k
 | [],_,p,hp=>by simp [zAS] at hp
 | .obj o::rs,j,p,hp=>by
  simp only [zAS,List.map_cons,List.mem_cons] at hp
  rcases hp with hp|hp
  ·exact ⟨j,Nat.le_refl _,hp⟩
  ·obtain ⟨k,h1,h2⟩:=zFW d rs (j+1) p hp
   exact ⟨k,by omega,h2⟩
 | .val _ _::rs,j,p,hp|.own _::rs,j,p,hp|.nil::rs,j,p,hp|.raw _::rs,j,p,hp|.ifc::rs,j,p,hp|.any::rs,j,p,hp=>by
  obtain ⟨k,h1,h2⟩:=zFW d rs (j+1) p (by simpa [zAS] using hp)
  exact ⟨k,by omega,h2⟩
theorem zFu (d:Nat):∀ (res:List RV) (j:Nat),((zAS d j res).map (·.1)).Nodup
 | [],_=>by simp [zAS]
 | .obj o::rs,j=>by
  simp only [zAS,List.map_cons,List.nodup_cons]
  refine ⟨fun hp=>?_,zFu d rs (j+1)⟩
  obtain ⟨k,h1,h2⟩:=zFW d rs (j+1) _ hp
  simp only [rid] at h2
  omega
 | .val _ _::rs,j|.own _::rs,j|.nil::rs,j|.raw _::rs,j|.ifc::rs,j|.any::rs,j=>by
  simpa [zAS] using zFu d rs (j+1)
theorem zCx {C':Ctx} {γ' γ2:Gam} {w':World} (d:Nat) (hz:∀ b,C'.zn γ' b→C.zn γ2 b):∀ (res:List RV) (j:Nat) (ids bids:List Nat) (vs:List Value),zCN C' γ' w' res ids bids vs→zAs d j res=[] →
 bids.length=(zAS d j res).length∧((∀ p r,(p,r)∈((zAS d j res).map (·.1)).zip bids→γ2.bx p=γ'.bx r)→zAp C γ2 w' (zDS d true j res) vs) ∧
 ∀ p o,(p,o)∈zAS d j res→∃ r,(p,r)∈((zAS d j res).map (·.1)).zip bids∧bxRep C' γ' w' r (o.sv r)
 | [],_,ids,bids,vs,h,_=>⟨by rw [h.2.1]; rfl,fun _=>h.2.2,fun p o hp=>by simp [zAS] at hp⟩
 | .val sh x::rs,j,ids,bids,vs,h,hn=>by
  obtain ⟨v,vs',rfl,h1,h2⟩:=h
  obtain ⟨k1,k2,k3⟩:=zCx d hz rs (j+1) ids bids vs' h2 (by simpa [zAs] using hn)
  exact ⟨k1,fun hm=>⟨v,vs',rfl,by simp only [Bool.true_or,if_true]; exact zAq hz h1,k2 hm⟩,k3⟩
 | .own rc::rs,j,ids,bids,vs,h,hn=>by simp [zAs] at hn
 | .nil::rs,j,ids,bids,vs,h,hn=>by
  obtain ⟨vs',rfl,h2⟩:=h
  obtain ⟨k1,k2,k3⟩:=zCx d hz rs (j+1) ids bids vs' h2 (by simpa [zAs] using hn)
  exact ⟨k1,fun hm=>⟨_,vs',rfl,rfl,k2 hm⟩,k3⟩
 | .raw u::rs,j,ids,bids,vs,h,hn=>by
  obtain ⟨vs',rfl,h2⟩:=h
  obtain ⟨k1,k2,k3⟩:=zCx d hz rs (j+1) ids bids vs' h2 (by simpa [zAs] using hn)
  exact ⟨k1,fun hm=>⟨_,vs',rfl,rfl,k2 hm⟩,k3⟩
 | .ifc::rs,j,ids,bids,vs,h,hn=>by
  obtain ⟨t,u,vs',rfl,h2⟩:=h
  obtain ⟨k1,k2,k3⟩:=zCx d hz rs (j+1) ids bids vs' h2 (by simpa [zAs] using hn)
  exact ⟨k1,fun hm=>⟨_,vs',rfl,⟨t,u,rfl⟩,k2 hm⟩,k3⟩
 | .any::rs,j,ids,bids,vs,h,hn=>by
  obtain ⟨v,vs',rfl,h2⟩:=h
  obtain ⟨k1,k2,k3⟩:=zCx d hz rs (j+1) ids bids vs' h2 (by simpa [zAs] using hn)
  exact ⟨k1,fun hm=>⟨_,vs',rfl,trivial,k2 hm⟩,k3⟩
 | .obj o::rs,j,ids,bids,vs,h,hn=>by
  obtain ⟨vs',i,bids',rfl,rfl,h1,h2⟩:=h
  obtain ⟨k1,k2,k3⟩:=zCx d hz rs (j+1) ids bids' vs' h2 (by simpa [zAs] using hn)
  refine ⟨by simp only [zAS,List.length_cons,k1],fun hm=>⟨_,vs',rfl,?_,k2 fun p r hp=>hm p r (by simp [zAS,hp])⟩,fun p o' hp=>?_⟩
  ·show _=Value.pointer _
   rw [hm (rid d j) i (by simp [zAS])]
  ·simp only [zAS,List.mem_cons,Prod.mk.injEq] at hp
   rcases hp with ⟨rfl,rfl⟩|hp
   ·exact ⟨i,by simp [zAS],h1⟩
   ·obtain ⟨r,e1,e2⟩:=k3 p o' hp
    exact ⟨r,by simp [zAS,e1],e2⟩
theorem zNN (hspec:FnSpec C.P f c) (h:Rel C γ s a w) (d:Option Tmp) (svs:List SV) (vs:List Value) (hl:svs.length=vs.length)
 (hr:∀ (i:Nat) (sv:SV) (v:Value),svs[i]?=some sv→vs[i]?=some v→svRep C γ w sv v) (hok:(callO C.nl s d c svs).1) :
 zBf C.P f∧Calls C.P f vs.toArray w (fun e w'=>∃ v γ2,e=.returned v∧Rel C γ2 (callO C.nl s d c svs).2.1 a w'∧svRep C γ2 w' (callO C.nl s d c svs).2.2 v):=by
 unfold callO at hok ⊢
 generalize hRd:zCl c.as_ svs=R at hok ⊢
 cases hv:zH0 s c.as_ svs with
 | none=>rw [hv] at hok; exact hok.elim
 | some x =>
  rw [hv] at hok
  simp only at hok ⊢
  obtain ⟨hpre,hnR,hleft,hdis,hnl,hnr⟩:=hok
  refine ⟨hspec.callable,?_⟩
  obtain ⟨e1,e2,e3,e4⟩:=zF0 h hnR c.as_ svs vs x 0 (by simpa using hRd) hv hl hr
  have hlt:∀ k l,(zDm γ R).own k=some l→k<w.heap.size:=fun k l hk=>by
   cases ho:γ.own k with
   | none=>simp [zDm,ho] at hk
   | some l'=>exact h.ownlt k l' ho
  have hent:Entry (zEY C γ R w) (zDm γ R) C.P c.as_ x vs:=⟨rfl,by rw [e3,hRd]; rfl,⟨rfl,h.defers.2.at h.keep,fun k hk=>by have h7:=h.defers.2; exact hk.2.elim (fun e n hn hg=>absurd (h7.gd.size n hn k hg) (Nat.not_lt.mpr e)) (h7.off k)⟩,fun r _=>⟨rfl,rfl⟩,hlt,e1,fun p hp=>by rw [e2] at hp; simp at hp,e4⟩
  refine (hspec.run _ _ x vs hpre hent).mono fun e w' hx=>?_
  obtain ⟨v,γ',rfl,⟨⟨ids0,ids,us,rfl,hres,_,hnd2⟩,hlf,hob,holt⟩,hkeep⟩:=hx
  have hkeep':Keep (fun b=>objB γ R b=true∧(C.w0.heap.size≤b∨C.L b)) w w':=hkeep
  have hlen:ids.length=(zAS (d.getD 0) 0 (c.post x).res).length:=(zCx (C:=zEY C γ R w) (γ2:=γ') (d.getD 0) (fun _ hz=>hz) _ 0 ids0 ids us hres hnr).1
  generalize hrd:(zAS (d.getD 0) 0 (c.post x).res).map (·.1)=rids at hdis ⊢
  have hll:rids.length=ids.length:=by rw [←hrd,List.length_map]; exact hlen.symm
  have hl1:(rids.zip ids++((c.post x).objs.map fun p=>(R.getD p.1 0,p.1))).map (·.1)=rids++(c.post x).objs.map fun p=>R.getD p.1 0:=by rw [List.map_append,zHw _ _ hll,List.map_map]; rfl
  have hl2:(rids.zip ids++((c.post x).objs.map fun p=>(R.getD p.1 0,p.1))).map (·.2)=ids++(c.post x).objs.map (·.1):=by rw [List.map_append,zJw _ _ hll,List.map_map]; rfl
  generalize hle:rids.zip ids++((c.post x).objs.map fun p=>(R.getD p.1 0,p.1))=l at hl1 hl2
  have hgm:∀ k,k<R.length→R[k]?=some (R.getD k 0):=fun k hk=>by rw [List.getD_eq_getElem?_getD,List.getElem?_eq_getElem hk]; rfl
  have hgR:∀ p∈(c.post x).objs,R.getD p.1 0∈R:=fun p hp=>List.mem_of_getElem? (hgm p.1 (hleft p hp))
  have hlR:∀ q∈(c.post x).objs.map (fun p=>R.getD p.1 0),q∈R:=fun q hq=>by
   obtain ⟨p,hp,rfl⟩:=List.mem_map.1 hq
   exact hgR p hp
  have hnL:((c.post x).objs.map fun p=>R.getD p.1 0).Nodup:=by
   have h0:=(List.nodup_append.1 hnd2).2.1
   have e:(c.post x).objs.map (fun p=>R.getD p.1 0)=((c.post x).objs.map (·.1)).map (fun k=>R.getD k 0):=by rw [List.map_map]; rfl
   rw [e]
   refine zFq (fun a ha b hb e=>?_) h0
   obtain ⟨p,hp,rfl⟩:=List.mem_map.1 ha
   obtain ⟨q,hq,rfl⟩:=List.mem_map.1 hb
   have h1:=hgm _ (hleft p hp)
   have h2:=hgm _ (hleft q hq)
   rw [e,←h2] at h1
   exact (List.getElem?_inj (hleft p hp) hnR).1 h1
  have hn1:(l.map (·.1)).Nodup:=by
   rw [hl1]
   refine List.nodup_append.2 ⟨by rw [←hrd]; exact zFu _ _ _,hnL,fun p hp q hq e=>?_⟩
   subst e
   exact hdis p (hlR p hq) hp
  have hn2:(l.map (·.2)).Nodup:=by rw [hl2]; exact hnd2
  have hridge:∀ p∈rids,C.nl≤p:=by
   intro p hp
   rcases hnl with hnl|hnl
   ·rw [←hrd,hnl] at hp
    simp at hp
   ·rw [←hrd] at hp
    obtain ⟨k,_,h2⟩:=zFW _ _ _ p hp
    rw [h2]; unfold rid; omega
  have hRk:∀ p∈(c.post x).objs,(R.getD p.1 0,p.1)∈l:=fun p hp=>by
   rw [←hle]
   exact List.mem_append.2 (.inr (List.mem_map.2 ⟨p,hp,rfl⟩))
  have hbx:∀ p,p ∉ rids→(zBK γ γ' R l w.heap.size).bx p=γ.bx p:=fun p hp=>by
   cases hi:invP l p with
   | none=>simp only [zBK,hi]
   | some k =>
    have h1:=(zC4 hn1).1 hi
    rw [←hle] at h1
    rcases List.mem_append.1 h1 with h1|h1
    ·exact absurd (by rw [←zHw rids ids hll]; exact List.mem_map.2 ⟨_,h1,rfl⟩) hp
    ·obtain ⟨q,hq,e⟩:=List.mem_map.1 h1
     simp only [Prod.mk.injEq] at e
     have h3:=(hob q hq).2
     have h3':γ'.bx q.1=γ.bx (R.getD q.1 0):=h3
     rw [e.1,e.2] at h3'
     rw [←h3']
     simp only [zBK,hi]
  have hsame:∀ b,b<w.heap.size→objB γ R b≠true→(zBK γ γ' R l w.heap.size).own b=γ.own b:=fun b hb hb2=>by
   simp only [zBK]
   rw [if_neg (by rintro (e|e); exact absurd e (by omega); exact hb2 e)]
  have hblk:∀ b,b<w.heap.size→objB γ R b≠true→w'.heap[b]?=w.heap[b]?:=fun b hb hb2=>hkeep'.block b hb (fun e=>hb2 e.1)
  have hnone:∀ b,γ.own b=none→objB γ R b≠true:=fun b hb=>by simp [objB,hb]
  have hyes:∀ b,w.heap.size≤b∨objB γ R b=true→γ'.own b=none→(zBK γ γ' R l w.heap.size).own b=none:=fun b e hb=>by
   simp only [zBK]
   rw [if_pos e,hb]
   rfl
  have hzn:∀ b,(zEY C γ R w).zn γ' b→C.zn (zBK γ γ' R l w.heap.size) b:=fun b hb=>by
   rcases hb.1 with h1|h1|h1
   ·have h1':C.zn γ b:=h1
    rcases Nat.lt_or_ge b w.heap.size with hlt|hge
    ·exact ⟨h1'.1,by rw [hsame b hlt (hnone b h1'.2)]; exact h1'.2⟩
    ·exact ⟨h1'.1,hyes b (.inl hge) hb.2⟩
   ·have h1':w.heap.size≤b:=h1
    exact ⟨.inr (.inl (Nat.le_trans h.keep.size h1')),hyes b (.inl h1') hb.2⟩
   ·have h1':objB γ R b=true∧(C.w0.heap.size≤b∨C.L b):=h1
    exact ⟨.inr h1'.2,hyes b (.inr h1'.1) hb.2⟩
  have hzone:∀ b,b<w.heap.size→C.zn γ b→C.zn (zBK γ γ' R l w.heap.size) b∧w'.heap[b]?=w.heap[b]?:=fun b hb hz=>⟨⟨hz.1,by rw [hsame b hb (hnone b hz.2)]; exact hz.2⟩,hblk b hb (hnone b hz.2)⟩
  have hown:∀ b lo,γ.own b=some lo→(∀ r,(lo=.bx r∨lo=.mk r)→r ∉ R)→(zBK γ γ' R l w.heap.size).own b=some lo∧w'.heap[b]?=w.heap[b]?:=fun b lo hb hlo=>by
   have:objB γ R b≠true:=fun e=>by
    obtain ⟨r,k1,k2⟩:=zWn hnR hb e
    exact hlo r k1 k2
   exact ⟨by rw [hsame b (h.ownlt b lo hb) this]; exact hb,hblk b (h.ownlt b lo hb) this⟩
  have hout:∀ p i,(p,i)∈l→∀ g,(w.heap.size≤g∨(zEY C γ R w).L g)→(γ'.own g=some (.bx i)→(zBK γ γ' R l w.heap.size).own g=some (.bx p))∧(γ'.own g=some (.mk i)→(zBK γ γ' R l w.heap.size).own g=some (.mk p))∧(C.w0.heap.size≤g∨C.L g):=fun p i hp g hg=>by
   have hg2:w.heap.size≤g∨objB γ R g=true:=hg.imp id fun e=>e.1
   have hr:=(zFU hn2).2 hp
   refine ⟨fun e=>?_,fun e=>?_,?_⟩
   ·simp only [zBK]
    rw [if_pos hg2,e]
    simp [renLB,hr]
   ·simp only [zBK]
    rw [if_pos hg2,e]
    simp [renLB,hr]
   ·rcases hg with e|e
    ·exact .inl (Nat.le_trans h.keep.size e)
    ·exact e.2
  have hpl:∀ p i,(p,i)∈l→(zBK γ γ' R l w.heap.size).bx p=γ'.bx i:=fun p i hp=>by
   have:=(zC4 hn1).2 hp
   simp only [zBK,this]
  have hbox:∀ p i (o:Ob),(p,i)∈l→bxRep (zEY C γ R w) γ' w' i (o.sv i)→bxRep C (zBK γ γ' R l w.heap.size) w' p (o.sv p):=fun p i o hp hb=>by
   obtain ⟨cs,t,h1,h2,h3,h4,h5⟩:=hb
   have hg:=hpl p i hp
   refine ⟨cs,t,by rw [hg]; exact h1,?_,h3,by rw [hg]; exact (hout p i hp _ h5).1 h4,by rw [hg]; exact (hout p i hp _ h5).2.2⟩
   have key:∀ (fs:List Fd) (x:FdT fs) (cs:List Value),zAp (zEY C γ R w) γ' w' (fdBVs i fs x) cs→zAp C (zBK γ γ' R l w.heap.size) w' (fdBVs p fs x) cs:=by
    intro fs
    induction fs with
    | nil=>intro x cs h; exact h
    | cons g fs ih =>
     rintro x cs ⟨v,vs,rfl,k1,k2⟩
     refine ⟨v,vs,rfl,?_,ih _ _ k2⟩
     cases g with
     | val sh=>exact zAq hzn k1
     | raw i n=>exact k1
     | slk e =>
      obtain ⟨m1,m2,m3⟩:=k1
      exact ⟨m1,m2,fun g hg=>⟨(hout p i hp g (m3 g hg).2).2.1 (m3 g hg).1,(hout p i hp g (m3 g hg).2).2.2⟩⟩
   exact key o.fs o.x _ h2
  have keepB:∀ (b:BV) (v:Value),bvRep C γ w b v→bvRep C (zBK γ γ' R l w.heap.size) w' (killO rids R b) v:=by
   intro b v hb
   cases b with
   | any=>trivial
   | val sh x =>
    obtain ⟨cs,k1,k2⟩:=hb
    exact ⟨cs,zAx hkeep'.size hzone sh x cs k1,k2⟩
   | nils=>exact hb
   | ref r=>exact hb
   | refi r i=>exact hb
   | refp r k=>exact hb
   | adr r i sz=>exact hb
   | adri r i j sz=>exact hb
   | adrf r i sz n f off=>exact hb
   | box b =>
    simp only [killO]
    split
    ·trivial
    ·rename_i hk
     simp only [bvRep] at hb ⊢
     rw [hbx b (by simpa using hk)]
     exact hb
   | boxf b n f off =>
    simp only [killO]
    split
    ·trivial
    ·rename_i hk
     simp only [bvRep] at hb ⊢
     rw [hbx b (by simpa using hk)]
     exact hb
   | padr sh x =>
    obtain ⟨b,off,cs,k1,k2,k3,k4,k5⟩:=hb
    refine ⟨b,off,cs,k1,(hzone b k3 k2).1,Nat.lt_of_lt_of_le k3 hkeep'.size,zAx hkeep'.size hzone sh x cs k4,fun j c hj=>?_⟩
    rw [World.cell?_of_block (w:=w) (w':=w') (a:=⟨b,off+j,none⟩) (hzone b k3 k2).2]
    exact k5 j c hj
   | fn f caps =>
    simp only [killO]
    split
    ·trivial
    ·rename_i hk
     simp only [bvRep] at hb ⊢
     rw [hb]
     congr 2
     refine List.map_congr_left fun q hq=>?_
     rw [hbx q (fun e=>hk (List.any_eq_true.2 ⟨q,hq,by simpa using e⟩))]
   | bnd f sh x =>
    obtain ⟨u,k0,cs,k1,k2⟩:=hb
    exact ⟨u,k0,cs,zAx hkeep'.size hzone sh x cs k1,k2⟩
   | fnv as_ r q p=>exact hb
   | pfn as_ r q p =>
    obtain ⟨b,off,c,k1,k2,k3,k4,k5⟩:=hb
    refine ⟨b,off,c,k1,(hzone b k3 k2).1,Nat.lt_of_lt_of_le k3 hkeep'.size,?_,k5⟩
    rw [World.cell?_of_block (w:=w) (w':=w') (a:=⟨b,off,none⟩) (hzone b k3 k2).2]
    exact k4
   | nilf=>exact hb
   | unk=>exact hb
   | lits r =>
    obtain ⟨g,cap,k1,k2,k3,k4⟩:=hb
    refine ⟨g,cap,k1,(hzone g k3 k2).1,Nat.lt_of_lt_of_le k3 hkeep'.size,?_⟩
    rw [World.cell?_of_block (w:=w) (w':=w') (a:=⟨g,0,none⟩) (hzone g k3 k2).2]
    exact k4
   | mk d e sh xs =>
    simp only [killO]
    split
    ·trivial
    ·rename_i hk
     simp only [Bool.or_eq_true,List.elem_eq_mem,decide_eq_true_eq,not_or] at hk
     obtain ⟨k1,k2,k3⟩:=hb
     have hlo:∀ r,(Loc.mk d=.bx r∨Loc.mk d=.mk r)→r ∉ R:=fun r e=>by
      rcases e with e|e
      ·cases e
      ·cases e; exact hk.2
     exact ⟨k1,zIc k2 fun g hg=>(hown g _ (k3 g hg).1 hlo).2,fun g hg=>⟨(hown g _ (k3 g hg).1 hlo).1,(k3 g hg).2⟩⟩
   | skip=>exact hb
   | raw u=>exact hb
   | ifc=>exact hb
  have keepBs:∀ (bs:List BV) (vs:List Value),zAp C γ w bs vs→zAp C (zBK γ γ' R l w.heap.size) w' (bs.map (killO rids R)) vs:=by
   intro bs
   induction bs with
   | nil=>intro vs hb; exact hb
   | cons b bs ih =>
    rintro vs ⟨v,vs',rfl,k1,k2⟩
    exact ⟨v,vs',rfl,keepB b v k1,ih vs' k2⟩
  have keepSV:∀ (sv:SV) (v:Value),svRep C γ w sv v→svRep C (zBK γ γ' R l w.heap.size) w' (mapSV (killO rids R) sv) v:=by
   intro sv v hb
   cases sv with
   | one b=>exact keepB b v hb
   | tup bs =>
    obtain ⟨vs,k1,k2⟩:=hb
    exact ⟨vs,k1,keepBs bs vs k2⟩
   | rcd bs =>
    obtain ⟨vs,k1,k2,k3⟩:=hb
    exact ⟨vs,k1,keepBs bs vs k2,k3⟩
  have hrow:∀ (v:Value) (lo:Loc) {e sz n:Nat} {xs:List Value},(∀ r,(lo=.bx r∨lo=.mk r)→r ∉ R)→w.ownsRow 0 e sz v n xs→ownB C γ v lo→w'.ownsRow 0 e sz v n xs∧ownB C (zBK γ γ' R l w.heap.size) v lo:=fun v lo e sz n xs hlo k1 k2 =>
   ⟨zIc k1 fun g hg=>(hown g _ (k2 g hg).1 hlo).2,fun g hg=>⟨(hown g _ (k2 g hg).1 hlo).1,(k2 g hg).2⟩⟩
  have keepR:∀ r rc,rcRep C γ w r rc→rcRep C (zBK γ γ' R l w.heap.size) w' r rc:=by
   intro r rc hb
   have n1:∀ r',(Loc.hd r=.bx r'∨Loc.hd r=.mk r')→r' ∉ R:=fun r' e=>by rcases e with e|e<;>cases e
   have n2:∀ i r',(Loc.row r i=.bx r'∨Loc.row r i=.mk r')→r' ∉ R:=fun i r' e=>by rcases e with e|e<;>cases e
   cases rc with
   | flat e sh xs =>
    obtain ⟨k1,k2,k3⟩:=hb
    exact ⟨k1,hrow _ _ n1 k2 k3⟩
   | deep e e2 sh xss =>
    obtain ⟨k1,k2,k3,k4⟩:=hb
    obtain ⟨m1,m2⟩:=hrow _ _ n1 k2 k3
    exact ⟨k1,m1,m2,fun i xs hi=>hrow _ _ (n2 i) (k4 i xs hi).1 (k4 i xs hi).2⟩
   | hole e e2 sh xss k =>
    obtain ⟨k1,k2,k3,k4⟩:=hb
    obtain ⟨m1,m2⟩:=hrow _ _ n1 k2 k3
    exact ⟨k1,m1,m2,fun i xs hi1 hi=>hrow _ _ (n2 i) (k4 i xs hi1 hi).1 (k4 i xs hi1 hi).2⟩
   | rags e sh xss =>
    obtain ⟨vs,k1,k2,k3⟩:=hb
    obtain ⟨m1,m2⟩:=hrow _ _ n1 k1 k2
    refine ⟨vs,m1,m2,?_⟩
    have hvv:∀ (m:List (List sh.T)) (us:List Value),zAp C γ w (m.map fun x=>BV.val (.sl sh) x) us→zAp C (zBK γ γ' R l w.heap.size) w' (m.map fun x=>BV.val (.sl sh) x) us:=by
     intro m
     induction m with
     | nil=>intro us h; exact h
     | cons x m ih =>
      intro us h
      obtain ⟨u,us',rfl,q1,q2⟩:=h
      exact ⟨u,us',rfl,keepB (.val (.sl sh) x) u q1,ih us' q2⟩
    exact hvv _ _ k3
  obtain ⟨_,q2,q3⟩:=zCx (C:=C) (γ2:=zBK γ γ' R l w.heap.size) (d.getD 0) hzn (c.post x).res 0 ids0 ids us hres hnr
  have hzl:∀ p r,(p,r)∈rids.zip ids→(p,r)∈l:=fun p r hp=>by rw [←hle]; exact List.mem_append.2 (.inl hp)
  rw [hrd] at q2 q3
  refine ⟨_,zBK γ γ' R l w.heap.size,rfl,⟨h.defers,h.keep.step hkeep' (fun b hM hb=>hM.2.resolve_left (by omega)),fun k lo hk=>?_,fun r hr=>⟨(h.lent r hr).1,?_⟩,fun i=>?_,fun r rc hr=>?_,fun b sv hb=>?_⟩,zFQ _ _ (q2 fun p r hp=>hpl p r (hzl p r hp))⟩
  ·simp only [zBK] at hk
   split at hk
   ·cases ho:γ'.own k with
    | none=>rw [ho] at hk; simp at hk
    | some l'=>exact holt k l' ho
   ·exact Nat.lt_of_lt_of_le (h.ownlt k lo hk) hkeep'.size
  ·rw [hbx r (fun hp=>by have:=hridge r hp; omega)]
   exact (h.lent r hr).2
  ·exact keepSV _ _ (h.env i)
  ·exact keepR r rc (h.roots r rc hr)
  ·have hfst:((c.post x).objs.map fun p=>(R.getD p.1 0,p.2)).map (·.1)=(c.post x).objs.map fun p=>R.getD p.1 0:=by rw [List.map_map]; rfl
   simp only [AS.setObs] at hb
   split at hb
   ·rename_i sv' he
    simp only [Option.some.injEq] at hb
    subst hb
    obtain ⟨y,k1,k2⟩:∃ y,y∈(zAS (d.getD 0) 0 (c.post x).res++(c.post x).objs.map fun p=>(R.getD p.1 0,p.2))∧(b,sv')=(y.1,y.2.sv y.1):=by
     rcases zIO (none:Option SV) ((zAS (d.getD 0) 0 (c.post x).res++(c.post x).objs.map fun p=>(R.getD p.1 0,p.2)).map fun p=>(p.1,some (p.2.sv p.1))) b with e|e
     ·rw [he] at e; cases e
     ·rw [he] at e
      obtain ⟨y,k1,k2⟩:=List.mem_map.1 e
      simp only [Prod.mk.injEq,Option.some.injEq] at k2
      exact ⟨y,k1,by rw [←k2.1,←k2.2]⟩
    simp only [Prod.mk.injEq] at k2
    obtain ⟨rfl,rfl⟩:=k2
    rcases List.mem_append.1 k1 with k1|k1
    ·obtain ⟨r,m1,m2⟩:=q3 y.1 y.2 k1
     exact hbox y.1 r y.2 (hzl _ _ m1) m2
    ·obtain ⟨q,hq,e⟩:=List.mem_map.1 k1
     subst e
     exact hbox _ q.1 q.2 (hRk q hq) (hob q hq).1
   ·rename_i he
    simp only [AS.dropB] at hb
    split at hb
    ·cases hb
    ·rename_i hbR
     have hbR':b ∉ R:=by simpa using hbR
     have hbr:b ∉ rids:=fun hm=>by
      rw [←hrd] at hm
      obtain ⟨y,k1,k2⟩:=List.mem_map.1 hm
      have hnone2:∀ (l:List (Nat×Ob)) (y:Nat×Ob),y∈l→lk none (l.map fun p=>(p.1,some (p.2.sv p.1))) y.1≠none:=by
       intro l
       induction l with
       | nil=>intro y hy; simp at hy
       | cons z l ih =>
        intro y hy
        simp only [List.map_cons,lk]
        split
        ·simp
        ·rename_i hne
         rcases List.mem_cons.1 hy with rfl|hy
         ·exact absurd rfl hne
         ·exact ih y hy
      have:=hnone2 _ y (List.mem_append.2 (.inl k1):y∈zAS (d.getD 0) 0 (c.post x).res++(c.post x).objs.map fun p=>(R.getD p.1 0,p.2))
      rw [k2] at this
      exact this he
     obtain ⟨sv0,k1,rfl⟩:=zGt hb
     obtain ⟨cs,t,m1,m2,m3,m4,m5⟩:=h.boxes b sv0 k1
     have hlo:∀ r,(Loc.bx b=.bx r∨Loc.bx b=.mk r)→r ∉ R:=fun r e=>by
      rcases e with e|e
      ·cases e; exact hbR'
      ·cases e
     have hg:=hbx b hbr
     refine ⟨cs,t,by rw [hg,(hown _ _ m4 hlo).2]; exact m1,?_,m3,by rw [hg]; exact (hown _ _ m4 hlo).1,by rw [hg]; exact m5⟩
     cases sv0 with
     | one bv =>
      obtain ⟨v,k2,k3⟩:=m2
      exact ⟨v,keepB bv v k2,k3⟩
     | tup bs=>exact m2
     | rcd bs=>exact keepBs bs _ m2
theorem zNL (hE:KnowOK C.P E) (h:Rel C γ s a w) (d:Option Tmp) (f:FuncId) (svs:List SV) (vs:List Value) (hl:svs.length=vs.length)
 (hr:∀ (i:Nat) (sv:SV) (v:Value),svs[i]?=some sv→vs[i]?=some v→svRep C γ w sv v) (hok:(callF E C.nl s d f svs).1) :
 zBf C.P f∧Calls C.P f vs.toArray w (fun e w'=>∃ v γ2,e=.returned v∧Rel C γ2 (callF E C.nl s d f svs).2.1 a w'∧svRep C γ2 w' (callF E C.nl s d f svs).2.2 v):=by
 unfold callF at hok ⊢
 cases hT:E.T f with
 | none=>rw [hT] at hok; exact hok.elim
 | some c =>
  rw [hT] at hok
  simp only at hok ⊢
  cases hob:zHD c.as_ with
  | true =>
   rw [hob] at hok
   exact zNN (hE.con f c hT) h d svs vs hl hr hok
  | false =>
  rw [hob] at hok
  simp only at hok ⊢
  cases hh:zCV c.as_ with
  | true =>
   rw [hh] at hok
   exact zNM hE (hE.con f c hT) h d svs vs hl hr hok
  | false =>
   rw [hh] at hok
   exact zNK hE h d f svs vs hl hr hok
theorem zCA (E:Know) (s:AS):∀ (as_:List AD) (svs:List SV),zHD as_=true→zB6 E s as_ svs=none
 | [],_,h=>by simp [zHD] at h
 | _::_,[],_=>rfl
 | .obj fs::as_,v::vs,_=>rfl
 | .sdat sh::as_,v::vs,_=>rfl
 | .lend::as_,v::vs,_=>rfl
 | .dat sh::as_,v::vs,h=>by
  simp only [zB6,zCA E s as_ vs h]
  split<;>first|rfl|(rename_i e; cases e)
 | .ptr sh::as_,v::vs,h=>by
  simp only [zB6,zCA E s as_ vs h]
  split<;>first|rfl|(rename_i e; cases e)
 | .fnc l r::as_,v::vs,h=>by
  simp only [zB6,zCA E s as_ vs h]
  split<;>first|rfl|(rename_i e; cases e)
 | .pfn l r::as_,v::vs,h=>by
  simp only [zB6,zCA E s as_ vs h]
  split<;>first|rfl|(rename_i e; cases e)
 | .nilp::as_,v::vs,h=>by
  simp only [zB6,zCA E s as_ vs h]
  split<;>first|rfl|(rename_i e; cases e)
theorem zCZ (E:Know) (s:AS):∀ (as_:List AD) (svs:List SV),zCV as_=true→zB6 E s as_ svs=none
 | [],_,h=>by simp [zCV] at h
 | _::_,[],_=>rfl
 | .lend::as_,v::vs,_=>rfl
 | .obj fs::as_,v::vs,_=>rfl
 | .sdat sh::as_,v::vs,_=>rfl
 | .dat sh::as_,v::vs,h=>by
  simp only [zB6,zCZ E s as_ vs h]
  split<;>first|rfl|(rename_i e; cases e)
 | .ptr sh::as_,v::vs,h=>by
  simp only [zB6,zCZ E s as_ vs h]
  split<;>first|rfl|(rename_i e; cases e)
 | .fnc l r::as_,v::vs,h=>by
  simp only [zB6,zCZ E s as_ vs h]
  split<;>first|rfl|(rename_i e; cases e)
 | .pfn l r::as_,v::vs,h=>by
  simp only [zB6,zCZ E s as_ vs h]
  split<;>first|rfl|(rename_i e; cases e)
 | .nilp::as_,v::vs,h=>by
  simp only [zB6,zCZ E s as_ vs h]
  split<;>first|rfl|(rename_i e; cases e)
end
end Go.VS
namespace Go.VS
open Go.RowKit
def zF8:Op→Bool
 | .store ..|.makeSlice ..|.alloc _|.box ..=>true
 | .call {callee:=.builtin .append,..}=>true
 | _=>false
def zF5 (E:Know):Option Tmp→Op→Bool
 | some d,.buildSlice ..=>E.own.elem d
 | _,_=>false
def calls:Op→Bool
 | .call {callee:=.value _,..}=>true
 | _=>false
def callR (c:Rec) (s:AS) (f:FuncId) (caps:List Nat) (svs:List SV):Prop×AS×SV :=
 match caps.drop c.ante.length with
 | R::l=>match s.boxes R with
  | some (.one (.fn g caps'))=>match zBj s c.ante (caps.take c.ante.length),zBj s c.post l,zCK s c.as_ svs with
   | some y1,some y2,some x=>(g=f∧caps'=caps∧c.q y1 y2 x,s,.one (.val c.r (c.p y1 y2 x)))
   | _,_,_=>badE s
  | _=>badE s
 | []=>badE s
def callC (E:Know) (s:AS) (f:FuncId) (caps:List Nat) (svs:List SV):Prop×AS×SV :=
 match E.K f with
 | some c=>match zBj s c.caps caps,zCK s c.as_ svs with
  | some y,some x=>(c.q y x∧c.r.flat=true,s,.one (.val c.r (c.p y x)))
  | _,_=>badE s
 | none=>match E.R f with
  | some c=>callR c s f caps svs
  | none=>badE s
def zLT (E:Know) (nl:Nat) (s:AS) (dst:Option Tmp):Op→Prop×AS×SV
 | .call {callee:=.value x,args,..}=>match ev s x with
  | .one (.fn f [])=>callF E nl s dst f (args.toList.map (ev s))
  | .one (.fn f (b::bs))=>callC E s f (b::bs) (args.toList.map (ev s))
  | .one (.fnv as_ r q p)=>callV s (args.toList.map (ev s)) as_ r q p
  | _=>badE s
 | _=>badE s
def actO (E:Know) (nl:Nat) (s:AS) (dst:Option Tmp) (op:Op):Prop×AS×SV :=
 match zF8 op || zF5 E dst op with
 | true=>ef E.G nl s dst op
 | false=>match calls op with
  | true=>zLT E nl s dst op
  | false=>((pv E.G s op).1,s,(pv E.G s op).2)
def mkOp (E:Know):Option Tmp→Op→Bool
 | some d,.makeSlice ..=>E.own.elem d
 | _,_=>false
def mkV (G:Lang) (s:AS) (dst:Option Tmp):Op→Prop×SV
 | .makeSlice t l c=>match dst,ev s l,ev s c,G.sh t with
  | some d,.one (.val .int n),.one (.val .int m),some (.sl sh)=>((n:Int)=m∧cutOK n 1000000∧sh.flat=true,.one (if G.frz d=true then .val (.sl sh) (List.replicate (Int.toNat n) sh.zero) else .mk d (G.el t) sh (List.replicate (Int.toNat n) sh.zero)))
  | _,_,_,_=>bad
 | _=>bad
def act (E:Know) (nl:Nat) (s:AS) (dst:Option Tmp) (op:Op):Prop×AS×SV :=
 match mkOp E dst op with
 | true=>((mkV E.G s dst op).1,s,(mkV E.G s dst op).2)
 | false=>actO E nl s dst op
def gate (ops:Array Oper) (s:AS) (o:Oper):Option Bool:=match o.guard with
 | none=>some true
 | some (j,want)=>match (ops[j]?).bind (·.dst) with
  | some dj=>match s.env dj with
   | .one (.val .bool b)=>some (b == want)
   | .one .skip=>some false
   | _=>none
  | none=>none
abbrev zE0:SV:=.one .skip
def stepK (E:Know) (nl:Nat) (ops:Array Oper) (s:AS) (o:Oper) (K:AS→Prop):Prop:=match gate ops s o with
 | some b=>(b=true→(act E nl s o.dst o.op).1∧K ((act E nl s o.dst o.op).2.1.put o.dst (act E nl s o.dst o.op).2.2))∧(b=false→K (s.put o.dst zE0))
 | none=>False
def runK (E:Know) (nl:Nat) (ops:Array Oper):List Oper→AS→(AS→Prop)→Prop
 | [],s,K=>K s
 | o::l,s,K=>stepK E nl ops s o fun s'=>runK E nl ops l s' K
section
variable {C:Ctx} {E:Know} {γ:Gam} {s:AS} {a:Act} {w:World} {ops:Array Oper}
theorem zVe (h:Rel C γ s a w) (args:Array Operand):(args.toList.map (ev s)).length=(args.map a.eval).toList.length ∧
 ∀ (i:Nat) (sv:SV) (v:Value),(args.toList.map (ev s))[i]?=some sv→(args.map a.eval).toList[i]?=some v→svRep C γ w sv v:=by
 refine ⟨by simp,fun i sv v h1 h2=>?_⟩
 rw [List.getElem?_map,Option.map_eq_some_iff] at h1
 rw [Array.toList_map,List.getElem?_map,Option.map_eq_some_iff] at h2
 obtain ⟨o,e1,rfl⟩:=h1
 obtain ⟨o',e2,rfl⟩:=h2
 rw [e1] at e2
 simp only [Option.some.injEq] at e2
 subst e2
 exact zAn h o
theorem zNO {f:FuncId} {c:Rec} (hs:RecSpec C.P f c) (h:Rel C γ s a w) {caps:List Nat} (svs:List SV) (vs:List Value) (hl:svs.length=vs.length)
 (hr:∀ (i:Nat) (sv:SV) (v:Value),svs[i]?=some sv→vs[i]?=some v→svRep C γ w sv v) (hok:(callR c s f caps svs).1) :
 zBf C.P f∧Calls C.P f (vs.toArray++(caps.map fun b=>Value.pointer (some ⟨γ.bx b,0,none⟩)).toArray) w (fun e w'=>∃ v γ2,e=.returned v∧Rel C γ2 (callR c s f caps svs).2.1 a w'∧svRep C γ2 w' (callR c s f caps svs).2.2 v):=by
 unfold callR at hok ⊢
 cases hcaps:caps.drop c.ante.length with
 | nil=>rw [hcaps] at hok; exact hok.elim
 | cons R l =>
  rw [hcaps] at hok
  simp only at hok ⊢
  cases hb:s.boxes R with
  | none=>rw [hb] at hok; exact hok.elim
  | some sv =>
   rw [hb] at hok
   split at hok
   ·rename_i g caps' hsv
    simp only [Option.some.injEq] at hsv
    subst hsv
    cases e1:zBj s c.ante (caps.take c.ante.length) with
    | none=>rw [e1] at hok; exact hok.elim
    | some y1 =>
     cases e2:zBj s c.post l with
     | none=>rw [e1,e2] at hok; exact hok.elim
     | some y2 =>
      cases e3:zCK s c.as_ svs with
      | none=>rw [e1,e2,e3] at hok; exact hok.elim
      | some x =>
       rw [e1,e2,e3] at hok
       simp only at hok ⊢
       obtain ⟨rfl,rfl,hq⟩:=hok
       refine ⟨hs.callable,?_⟩
       obtain ⟨cs,tt,d1,⟨v,d2,d2'⟩,d3,d4,d5⟩:=h.boxes R _ hb
       simp only [bvRep] at d2
       have hcells:cs.toList=[v]:=by rw [d2',d2]; rfl
       have hsplit:caps'=caps'.take c.ante.length++R::l:=by rw [←hcaps]; exact (List.take_append_drop _ _).symm
       let pt:Nat→Value:=fun b=>Value.pointer (some ⟨γ.bx b,0,none⟩)
       have hmap:caps'.map pt=(caps'.take c.ante.length).map pt++pt R::l.map pt:=by
        have:=congrArg (List.map pt) hsplit
        rwa [List.map_append,List.map_cons] at this
       have hcell:w.cell? ⟨γ.bx R,0,none⟩=some (.func (.func g) #[] ((caps'.take c.ante.length).map pt++pt R::l.map pt).toArray):=by
        rw [cell_of_row w _ 0 cs tt (0,0) d1]
        have h0:cs.toList[0]?=some v:=by rw [hcells]; rfl
        have h1:cs[0]?=some v:=by simpa using h0
        rw [h1,d2,←hmap]
       have:=hs.run w (fun _=>True) y1 y2 x _ _ vs (γ.bx R) 0 (h.defers.2.at h.keep) hq (zDf h c.ante _ y1 e1) (zDf h c.post _ y2 e2) (zEW h c.as_ svs vs x e3 hl hr (.inl fun _=>trivial)) (h.ownlt _ _ d4) hcell
       have e:(vs++((caps'.take c.ante.length).map pt++pt R::l.map pt)).toArray=vs.toArray++(caps'.map pt).toArray:=by rw [hmap]; simp
       rw [e] at this
       refine this.mono fun e w2 hx=>?_
       obtain ⟨u,h1,h2,h3⟩:=hx
       exact ⟨u,γ,h1,h.world h3,zCq hs.flat h2⟩
   ·exact hok.elim
theorem zNI (hE:KnowOK C.P E) (h:Rel C γ s a w) {f:FuncId} {caps:List Nat} (svs:List SV) (vs:List Value) (hl:svs.length=vs.length)
 (hr:∀ (i:Nat) (sv:SV) (v:Value),svs[i]?=some sv→vs[i]?=some v→svRep C γ w sv v) (hok:(callC E s f caps svs).1) :
 zBf C.P f∧Calls C.P f (vs.toArray++(caps.map fun b=>Value.pointer (some ⟨γ.bx b,0,none⟩)).toArray) w (fun e w'=>∃ v γ2,e=.returned v∧Rel C γ2 (callC E s f caps svs).2.1 a w'∧svRep C γ2 w' (callC E s f caps svs).2.2 v):=by
 unfold callC at hok ⊢
 cases hK:E.K f with
 | none =>
  rw [hK] at hok
  simp only at hok ⊢
  cases hR:E.R f with
  | none=>rw [hR] at hok; exact hok.elim
  | some c =>
   rw [hR] at hok
   simp only at hok ⊢
   exact zNO (hE.self f c hR) h svs vs hl hr hok
 | some c =>
  rw [hK] at hok
  simp only at hok ⊢
  cases hy:zBj s c.caps caps with
  | none=>rw [hy] at hok; exact hok.elim
  | some y =>
   cases hx:zCK s c.as_ svs with
   | none=>rw [hy,hx] at hok; exact hok.elim
   | some x =>
    rw [hy,hx] at hok
    simp only at hok ⊢
    have hs:=hE.clo f c hK
    refine ⟨hs.callable,?_⟩
    have:=hs.run w (fun _=>True) y x _ vs (h.defers.2.at h.keep) hok.1 (zDf h c.caps caps y hy) (zEW h c.as_ svs vs x hx hl hr (.inl fun _=>trivial))
    have e:(vs++caps.map fun b=>Value.pointer (some ⟨γ.bx b,0,none⟩)).toArray=vs.toArray++(caps.map fun b=>Value.pointer (some ⟨γ.bx b,0,none⟩)).toArray:=by simp
    rw [←e]
    refine this.mono fun e w2 hx=>?_
    obtain ⟨u,h1,h2,h3⟩:=hx
    exact ⟨u,γ,h1,h.world h3,zCq hok.2 h2⟩
theorem zQn (hE:KnowOK C.P E) (h:Rel C γ s a w) (o:Oper) (hok:(actO E C.nl s o.dst o.op).1) {next:Act→World→Prop} {Q:Exit→Act→World→Prop}
 (hn:∀ v w' γ',Rel C γ' (actO E C.nl s o.dst o.op).2.1 a w'→svRep C γ' w' (actO E C.nl s o.dst o.op).2.2 v→next (a.put o.dst v) w'):o.wp C.P a w next Q:=by
 unfold Oper.wp
 unfold actO at hok hn
 cases hw:zF8 o.op || zF5 E o.dst o.op with
 | true =>
  rw [hw] at hok hn
  obtain ⟨v,w',γ',h1,h2,h3⟩:=zVv (N:=0) hE.lang h o hok
  rcases h1 with h1|⟨h1,rfl⟩
  ·rw [h1]; exact hn v w' γ' h2 h3
  ·rw [h1]; exact hn undef w' γ' h2 h3
 | false =>
  rw [hw] at hok hn
  cases hc:calls o.op with
  | false =>
   rw [hc] at hok hn
   obtain ⟨v,w',h1,h2,h3⟩:=zP5 hE.lang h o hok
   rw [h1]
   exact hn v w' γ (h.world h2) h3
  | true =>
   rw [hc] at hok hn
   obtain ⟨d,op,ty,pos,af,gd⟩:=o
   cases op with
   | call c =>
    obtain ⟨callee,args,ats⟩:=c
    cases callee with
    | builtin b=>simp [calls] at hc
    | invoke r m=>simp [calls] at hc
    | value x =>
     simp only [zLT] at hok hn
     obtain ⟨hl,hr⟩:=zVe h args
     have hx:=zAn h x
     split at hok
     ·rename_i f he
      rw [he] at hx
      simp only [svRep,bvRep,List.map_nil] at hx
      simp only [he] at hn
      obtain ⟨k1,k2⟩:=zNL hE h d f _ _ hl hr hok
      rw [zDM k1 hx args ats d ty pos af gd w]
      simp only [Oper.upon]
      have e:(args.map a.eval).toList.toArray=args.map a.eval++#[]:=by rw [Array.toArray_toList,Array.append_empty]
      rw [e] at k2
      refine k2.mono fun en w' hh=>?_
      obtain ⟨v,γ2,rfl,h2,h3⟩:=hh
      exact hn v w' γ2 h2 h3
     ·rename_i f b bs he
      rw [he] at hx
      simp only [svRep,bvRep] at hx
      simp only [he] at hn
      obtain ⟨k1,k2⟩:=zNI hE h _ _ hl hr hok
      rw [zDM k1 hx args ats d ty pos af gd w]
      simp only [Oper.upon]
      rw [Array.toArray_toList] at k2
      refine k2.mono fun en w' hh=>?_
      obtain ⟨v,γ2,rfl,h2,h3⟩:=hh
      exact hn v w' γ2 h2 h3
     ·rename_i as_ r q p he
      rw [he] at hx
      simp only [he] at hn
      obtain ⟨f,pre,caps,k0,k1,k2⟩:=zNP h hx _ _ hl hr hok
      rw [zJQ k1 k0 args ats d ty pos af gd w]
      simp only [Oper.upon]
      rw [Array.toArray_toList] at k2
      refine k2.mono fun en w' hh=>?_
      obtain ⟨v,γ2,rfl,h2,h3⟩:=hh
      exact hn v w' γ2 h2 h3
     ·exact hok.elim
   | _=>simp [calls] at hc
theorem zW2 {G:Lang} (hG:LangOK C.P G) (h:Rel C γ s a w) {dd:Option Tmp} {t:TypeId} {l c:Operand} {ty:TypeId} {pos:String} {af:Array Edge} {gd:Option (Nat×Bool)} {sh:Sh} {n:Int}
 (hl:ev s l=.one (.val .int n)) (hc:ev s c=.one (.val .int n)) (ht:G.sh t=some (.sl sh)) (hn:cutOK n 1000000) (hf:sh.flat=true) :
 ∃ v w' γ',(execOp a.eval ⟨dd,.makeSlice t l c,ty,pos,af,gd⟩).run C.P w=.ok (.value v) w' ∧
  Rel C γ' s a w'∧svRep C γ' w' (.one (.val (.sl sh) (List.replicate n.toNat sh.zero))) v:=by
 have hl':=zAn h l
 have hc':=zAn h c
 rw [hl] at hl'
 rw [hc] at hc'
 have hl':=zAH hl'
 have hc':=zAH hc'
 obtain ⟨hu,he,hpos⟩:=hG.sl t sh ht
 obtain ⟨i0,z,hi0,hs0,hby,hz,hzc⟩:=hG.info _ sh he
 obtain ⟨k,rfl⟩:∃ k:Nat,n=k:=⟨n.toNat,by have:=hn.1; omega⟩
 have hk:k≤1000000:=by have:=hn.2; omega
 obtain ⟨w',hr,hown,hg⟩:=run_make_full (P:=C.P) w 0 t (G.el t) i0 z sh.size hu hi0 hz hs0 .i64 .i64 k (by have:=Nat.mul_le_mul hby hk; omega) (by unfold maxLen; omega) (Nat.zero_le _)
 have hblk:∀ b,b<w.heap.size→w'.heap[b]?=w.heap[b]?:=fun b hb=>hg.block b hb (by simp)
 refine ⟨_,w',γ,run_v (by rw [hl',hc']; exact hr),h.world ⟨hg.os,hg.tape,hg.output,hg.size,fun b hb _=>hblk b hb⟩,?_⟩
 have hcells:(madeCells z.cells (k*sh.size)).toList=(List.replicate k sh.zero).flatMap sh.cells:=by
  have hz':z.cells.toList=sh.cells sh.zero:=hzc
  exact zFo z.cells hz' hpos.1 k
 rw [hcells] at hown
 have hown':w'.ownsRow 0 (G.el t) sh.size (.slice (some ⟨w.heap.size,0,none⟩) k k) (List.replicate k sh.zero).length ((List.replicate k sh.zero).flatMap sh.cells):=by
  rw [List.length_replicate]; exact hown
 refine ⟨_,zBk hf hown' (fun g hg'=>?_),rfl⟩
 simp only [Value.ownBlock,Option.some.injEq] at hg'
 subst hg'
 refine ⟨.inr (.inl h.keep.size),?_⟩
 cases ho:γ.own w.heap.size with
 | none=>rfl
 | some lo=>have:=h.ownlt _ lo ho; omega
theorem zSu (hE:KnowOK C.P E) (h:Rel C γ s a w) (o:Oper) (hok:(act E C.nl s o.dst o.op).1) {next:Act→World→Prop} {Q:Exit→Act→World→Prop}
 (hn:∀ v w' γ',Rel C γ' (act E C.nl s o.dst o.op).2.1 a w'→svRep C γ' w' (act E C.nl s o.dst o.op).2.2 v→next (a.put o.dst v) w'):o.wp C.P a w next Q:=by
 unfold act at hok hn
 cases hm:mkOp E o.dst o.op with
 | false =>
  rw [hm] at hok hn
  exact zQn hE h o hok hn
 | true =>
  rw [hm] at hok hn
  obtain ⟨d,op,ty,pos,af,gd⟩:=o
  simp only at hok hn hm
  cases op<;>simp only [mkV] at hok hn<;>try exact hok.elim
  rename_i t l c
  split at hok
  ·rename_i d' n m sh e1 e2 e3
   obtain ⟨rfl,h2,h3⟩:=hok
   simp only [e1,e2,e3] at hn
   unfold Oper.wp
   by_cases hz:E.G.frz d'=true
   ·obtain ⟨v,w',γ',k1,k2,k3⟩:=zW2 hE.lang h (dd:=some d') (ty:=ty) (pos:=pos) (af:=af) (gd:=gd) e1 e2 e3 h2 h3
    rw [k1]
    exact hn v w' γ' k2 (by rw [if_pos hz]; exact k3)
   ·obtain ⟨v,w',γ',k1,k2,k3⟩:=zU0 hE.lang h (dd:=some d') (ty:=ty) (pos:=pos) (af:=af) (gd:=gd) (d:=d') e1 e2 e3 h2 h3
    rw [k1]
    exact hn v w' γ' k2 (by rw [if_neg hz]; exact k3)
  ·exact hok.elim
theorem zQR (h:Rel C γ s a w) (hd:∀ (j:Nat) (o:Oper),ops[j]?=some o→dstOK a.tmps.size o.dst=true) {o:Oper} {b:Bool} (hg:gate ops s o=some b):Region.wanted o (yielded ops a.tmps)=b:=by
 unfold gate at hg
 unfold Region.wanted
 split at hg
 ·rename_i e
  rw [e]
  simpa using hg
 ·rename_i j want e
  rw [e]
  simp only
  split at hg
  ·rename_i dj hdj
   have hlt:dj<a.tmps.size:=by
    cases ho:ops[j]? with
    | none=>rw [ho] at hdj; simp at hdj
    | some oj =>
     rw [ho] at hdj
     simp only [Option.bind_some] at hdj
     have:=hd j oj ho
     rw [hdj] at this
     simpa [dstOK] using this
   have hget:a.tmps[dj]?=some (a.tmps.getD dj undef):=by simp [Array.getD_eq_getD_getElem?,hlt]
   have he:=h.env dj
   split at hg
   ·rename_i b' hb
    rw [hb] at he
    obtain ⟨cs,h1,h2⟩:=he
    simp only [pers] at h1
    subst h1
    have h2':a.tmps.getD dj undef=.bool b':=h2
    simp only [yielded,hdj,Option.bind_some,hget,h2']
    simp only [Option.some.injEq] at hg
    subst hg
    cases b'<;>cases want<;>rfl
   ·rename_i hb
    rw [hb] at he
    have h2':a.tmps.getD dj undef=undef:=he
    simp only [yielded,hdj,Option.bind_some,hget,h2']
    simp only [Option.some.injEq] at hg
    subst hg
    cases want<;>rfl
   ·cases hg
  ·cases hg
theorem zCY (hE:KnowOK C.P E) (h:Rel C γ s a w) (hd:∀ (j:Nat) (o:Oper),ops[j]?=some o→dstOK a.tmps.size o.dst=true) {o:Oper} (ho:dstOK a.tmps.size o.dst=true) {K:AS→Prop} (hk:stepK E C.nl ops s o K)
 {next:Act→World→Prop} {Q:Exit→Act→World→Prop} (hn:∀ s' γ' a' w',Rel C γ' s' a' w'→a'.tmps.size=a.tmps.size→K s'→next a' w') :
 if Region.wanted o (yielded ops a.tmps) then o.wp C.P a w next Q else next (a.put o.dst undef) w:=by
 unfold stepK at hk
 split at hk
 ·rename_i b hg
  rw [zQR h hd hg]
  cases b with
  | true =>
   simp only [if_true]
   have hk:=hk.1 rfl
   exact zSu hE h o hk.1 fun v w' γ' h1 h2=>hn _ γ' _ w' (h1.put ho h2) (zC5 a o.dst v) hk.2
  | false =>
   simp only [Bool.false_eq_true,if_false]
   exact hn _ γ _ w (h.put ho (sv:=zE0) (v:=undef) rfl) (zC5 a o.dst undef) (hk.2 rfl)
 ·exact hk.elim
theorem zDE (hE:KnowOK C.P E) {Q:Exit→Act→World→Prop} {K:AS→Prop} {N:Nat} (hd:∀ (j:Nat) (o:Oper),ops[j]?=some o→dstOK N o.dst=true)
 (hQ:∀ s' γ' a' w',Rel C γ' s' a' w'→a'.tmps.size=N→K s'→Q .normal a' w'):∀ (l:List Oper) (s:AS) (γ:Gam) (a:Act) (w:World),(∀ o∈l,dstOK N o.dst=true)→a.tmps.size=N→Rel C γ s a w →
 runK E C.nl ops l s K→wpList C.P ops Q l a w
 | [],s,γ,a,w,_,hN,h,hk=>hQ s γ a w h hN hk
 | o::l,s,γ,a,w,hl,hN,h,hk=>by
  refine wpList_step fun K' hK'=>?_
  subst hN
  exact zCY hE h hd (hl o (by simp)) hk fun s' γ' a' w' h1 h2 h3=>hK' _ _ (zDE hE hd hQ l s' γ' a' w' (fun o ho=>hl o (by simp [ho])) h2 h1 h3)
end
end Go.VS
namespace Go.VS
open Go.RowKit
def zGM (E:Know) (s:AS) (dst:Option Tmp):Op→Prop×SV
 | .call {callee:=.value x,args,..}=>match ev s x with
  | .one (.fn f [])=>match E.T f with
   | some c=>match zB6 E s c.as_ (args.toList.map (ev s)) with
    | some y=>(c.pre y∧zAs (dst.getD 0) 0 (c.post y).res=[]∧zAS (dst.getD 0) 0 (c.post y).res=[],zI1 (zDS (dst.getD 0) ((args.toList.map (ev s)).all zAN) 0 (c.post y).res))
    | none=>bad
   | none=>bad
  | .one (.fn f (b::bs))=>((callC E s f (b::bs) (args.toList.map (ev s))).1,(callC E s f (b::bs) (args.toList.map (ev s))).2.2)
  | .one (.fnv as_ r q p)=>((callV s (args.toList.map (ev s)) as_ r q p).1,(callV s (args.toList.map (ev s)) as_ r q p).2.2)
  | _=>bad
 | _=>bad
def zDs (E:Know) (s:AS) (dst:Option Tmp) (op:Op):Prop×SV :=
 match zF8 op || zF5 E dst op with
 | true=>bad
 | false=>match calls op with
  | true=>zGM E s dst op
  | false=>pv E.G s op
def zAA (E:Know) (s:AS) (dst:Option Tmp) (op:Op):Prop×SV :=
 match mkOp E dst op with
 | true=>mkV E.G s dst op
 | false=>zDs E s dst op
def pStep (E:Know) (ops:Array Oper) (s:AS) (o:Oper):Prop×SV:=match gate ops s o with
 | some true=>zAA E s o.dst o.op
 | some false=>(True,zE0)
 | none=>bad
def runP (E:Know) (ops:Array Oper):List Oper→AS→(AS→Prop)→Prop
 | [],s,K=>K s
 | o::l,s,K=>(pStep E ops s o).1∧runP E ops l (s.put o.dst (pStep E ops s o).2) K
def runQ (E:Know) (ops:Array Oper):List Oper→AS→(AS→Prop)→Prop
 | [],s,K=>K s
 | o::l,s,K=>match gate ops s o with
  | some b=>(b=true→(zAA E s o.dst o.op).1∧runQ E ops l (s.put o.dst (zAA E s o.dst o.op).2) K)∧(b=false→runQ E ops l (s.put o.dst zE0) K)
  | none=>False
theorem zD6 {E:Know} {ops:Array Oper} {K:AS→Prop}:∀ (l:List Oper) (s:AS),runQ E ops l s K→runP E ops l s K
 | [],_,h=>h
 | o::l,s,h=>by
  simp only [runQ] at h
  simp only [runP,pStep]
  split at h
  ·rename_i b hg
   cases b with
   | true =>
    have h:=h.1 rfl
    simp only [hg]
    exact ⟨h.1,zD6 l _ h.2⟩
   | false =>
    simp only [hg]
    exact ⟨trivial,zD6 l _ (h.2 rfl)⟩
  ·exact h.elim
section
variable {E:Know} {s:AS} {ops:Array Oper} {md:Region.Mode}
theorem zNJ {f:FuncId} {caps:List Nat} {svs:List SV}:(callC E s f caps svs).2.1=s:=by
 unfold callC
 split
 ·split<;>rfl
 ·split
  ·unfold callR
   split
   ·split
    ·split<;>rfl
    ·rfl
   ·rfl
  ·rfl
theorem zNQ {svs:List SV} {as_:List Sh} {r:Sh} {q:TupT as_→Prop} {p:TupT as_→r.T}:(callV s svs as_ r q p).2.1=s:=by
 unfold callV
 split<;>rfl
theorem zLN {nl:Nat} {dst:Option Tmp} {op:Op} (h:(zDs E s dst op).1):(actO E nl s dst op).1∧(actO E nl s dst op).2.1=s∧(actO E nl s dst op).2.2=(zDs E s dst op).2:=by
 unfold zDs at h ⊢
 unfold actO
 cases hw:zF8 op || zF5 E dst op with
 | true=>rw [hw] at h; exact h.elim
 | false =>
  rw [hw] at h
  cases hc:calls op with
  | false=>rw [hc] at h; exact ⟨h,rfl,rfl⟩
  | true =>
   rw [hc] at h
   simp only at h ⊢
   unfold zGM at h ⊢
   unfold zLT
   split at h
   ·split at h
    ·rename_i f he
     try simp only [he]
     split at h
     ·rename_i c hT
      split at h
      ·rename_i y hy
       cases hh:zCV c.as_ with
       | true=>rw [zCZ E s c.as_ _ hh] at hy; cases hy
       | false =>
        have hh2:zHD c.as_=false:=by
         cases ho:zHD c.as_ with
         | false=>rfl
         | true=>rw [zCA E s c.as_ _ ho] at hy; cases hy
        simp only [callF,hh,hh2,callE,hT,hy,h.2.1,h.2.2]
        exact ⟨h.1,trivial,trivial⟩
      ·exact h.elim
     ·exact h.elim
    ·rename_i he
     simp only [he]
     exact ⟨h,zNJ,trivial⟩
    ·rename_i he
     simp only [he]
     exact ⟨h,zNQ,trivial⟩
    ·exact h.elim
   ·exact h.elim
theorem zNB {nl:Nat} {dst:Option Tmp} {op:Op} (h:(zAA E s dst op).1):(act E nl s dst op).1∧(act E nl s dst op).2.1=s∧(act E nl s dst op).2.2=(zAA E s dst op).2:=by
 unfold zAA at h ⊢
 unfold act
 cases hm:mkOp E dst op with
 | true=>rw [hm] at h; exact ⟨h,rfl,rfl⟩
 | false=>rw [hm] at h; exact zLN h
theorem zJE {nl:Nat} {o:Oper} {K:AS→Prop} (h:(pStep E ops s o).1) (hk:K (s.put o.dst (pStep E ops s o).2)):stepK E nl ops s o K:=by
 unfold pStep at h hk
 unfold stepK
 split at h
 ·rename_i hg
  simp only [hg] at hk ⊢
  obtain ⟨h1,h2,h3⟩:=zNB (nl:=nl) h
  exact ⟨fun _=>⟨h1,by rw [h2,h3]; exact hk⟩,fun e=>by cases e⟩
 ·rename_i hg
  simp only [hg] at hk ⊢
  exact ⟨fun e=>(by cases e),fun _=>hk⟩
 ·exact h.elim
theorem zHY {s':AS} (hr:s'.roots=s.roots):zE1 s'=zE1 s:=by
 funext sh b
 unfold zE1
 simp only [hr]
theorem zH1 {s':AS} (hr:s'.roots=s.roots):zDW s'=zDW s:=by
 funext sh b
 unfold zDW
 simp only [zHY hr]
theorem zG4 {s':AS} (hr:s'.roots=s.roots) (hb:s'.boxes=s.boxes):zEV s'=zEV s:=by
 funext sh b
 unfold zEV
 simp only [zHY hr,hb]
theorem zDv {s':AS} (hr:s'.roots=s.roots):∀ (as_:List Sh) (svs:List SV),zCK s' as_ svs=zCK s as_ svs
 | [],[]=>rfl
 | [],_::_=>rfl
 | _::_,[]=>rfl
 | a::as_,v::vs=>by simp only [zCK,zH1 hr,zDv hr as_ vs]
theorem zCp {s':AS} (hr:s'.roots=s.roots) (hb:s'.boxes=s.boxes):∀ (as_:List Sh) (ids:List Nat),zBj s' as_ ids=zBj s as_ ids
 | [],[]=>rfl
 | [],_::_=>rfl
 | _::_,[]=>rfl
 | a::as_,v::vs=>by simp only [zBj,zG4 hr hb,zCp hr hb as_ vs]
theorem zNm {s':AS} (hr:s'.roots=s.roots) (hb:s'.boxes=s.boxes) (as_:List Sh) (r:Sh) (sv:SV):zF7 E s' as_ r sv=zF7 E s as_ r sv:=by
 unfold zF7
 split
 ·rfl
 ·split
  ·split
   ·rw [zCp hr hb]
   ·rfl
  ·rfl
 ·rfl
 ·rfl
theorem zO2 {s':AS} (hr:s'.roots=s.roots) (hb:s'.boxes=s.boxes) (d:AD) (sv:SV):viewA E s' d sv=viewA E s d sv:=by
 cases d with
 | dat sh=>simp only [viewA,zH1 hr]
 | ptr sh=>simp only [viewA,zG4 hr hb]
 | fnc as_ r=>simp only [viewA,zNm hr hb]
 | pfn as_ r=>rfl
 | lend=>rfl
 | obj fs=>rfl
 | sdat sh=>rfl
 | nilp=>rfl
theorem zHX {s':AS} (hr:s'.roots=s.roots) (hb:s'.boxes=s.boxes):∀ (as_:List AD) (svs:List SV),zB6 E s' as_ svs=zB6 E s as_ svs
 | [],[]=>rfl
 | [],_::_=>rfl
 | _::_,[]=>rfl
 | a::as_,v::vs=>by simp only [zB6,zO2 hr hb,zHX hr hb as_ vs]
theorem zIp {s':AS} (hr:s'.roots=s.roots) (hb:s'.boxes=s.boxes) (f:FuncId) (caps:List Nat) (svs:List SV) :
 (callC E s' f caps svs).1=(callC E s f caps svs).1∧(callC E s' f caps svs).2.2=(callC E s f caps svs).2.2:=by
 unfold callC
 split
 ·rw [zCp hr hb,zDv hr]
  split<;>exact ⟨rfl,rfl⟩
 ·split
  ·unfold callR
   split
   ·rw [hb,zCp hr hb,zCp hr hb,zDv hr]
    split
    ·split<;>exact ⟨rfl,rfl⟩
    ·exact ⟨rfl,rfl⟩
   ·exact ⟨rfl,rfl⟩
  ·exact ⟨rfl,rfl⟩
theorem zIq {s':AS} (hr:s'.roots=s.roots) (svs:List SV) (as_:List Sh) (r:Sh) (q:TupT as_→Prop) (p:TupT as_→r.T) :
 (callV s' svs as_ r q p).1=(callV s svs as_ r q p).1∧(callV s' svs as_ r q p).2.2=(callV s svs as_ r q p).2.2:=by
 unfold callV
 rw [zDv hr]
 split<;>exact ⟨rfl,rfl⟩
theorem zWB {G:Lang} {s':AS} (hr:s'.roots=s.roots) (hb:s'.boxes=s.boxes) (op:Op) (he:∀ x∈op.operands,ev s' x=ev s x):pv G s' op=pv G s op:=by
 cases op with
 | call c =>
  obtain ⟨callee,args,ats⟩:=c
  have h2:∀ y∈args.toList,ev s' y=ev s y:=fun y hy=>he y (by simp [Op.operands,Call.operands]; exact .inr (by simpa using hy))
  cases callee with
  | value f=>rfl
  | invoke r m=>rfl
  | builtin b =>
   cases b<;>first
    | rfl
    | (simp only [pv]
       split
       ·rename_i hx _
        rw [h2 _ (by rw [hx]; simp),hr]
       ·rfl)
    | (simp only [pv]
       split
       ·rename_i hx
        rw [h2 _ (by rw [hx]; simp),h2 _ (by rw [hx]; simp)]
       ·rfl)
 | build t ps =>
  have h2:(ps.toList.map fun p=>(p.1,ev s' p.2))=ps.toList.map fun p=>(p.1,ev s p.2):=List.map_congr_left fun p hp=>by rw [he p.2 (by simp [Op.operands]; exact ⟨p.1,by simpa using hp⟩)]
  simp only [pv,h2]
 | buildSlice t n ps =>
  have h3:∀ p∈ps.toList,ev s' p.2=ev s p.2:=fun p hp=>he p.2 (by simp [Op.operands]; exact ⟨p.1,by simpa using hp⟩)
  have h2:(ps.toList.map fun p=>ev s' p.2)=ps.toList.map fun p=>ev s p.2:=List.map_congr_left fun p hp=>h3 p hp
  simp only [pv,h2]
  split
  ·split
   ·rfl
   ·split
    ·rename_i x hx
     have h4:ev s' x=ev s x:=h3 (0,x) (by rw [hx]; simp)
     rw [h4,hr]
    ·rfl
  ·rfl
 | makeFunc f first caps =>
  have h2:caps.toList.map (ev s')=caps.toList.map (ev s):=List.map_congr_left fun p hp=>he p (by simp [Op.operands]; exact .inr (by simpa using hp))
  cases f<;>simp only [pv,h2]
  split
  ·rfl
  ·rename_i o hf hb
   rw [he o (by simp [Op.operands]; exact .inl (by rw [←Array.mem_toList_iff,hf]; simp))]
  ·rfl
 | slice t x lo hi mx =>
  have hx:=he x (by simp [Op.operands])
  cases mx with
  | some m =>
   cases lo with
   | some l=>rfl
   | none =>
    cases hi with
    | none=>rfl
    | some hi=>simp only [pv,hx,he hi (by simp [Op.operands]),he m (by simp [Op.operands])]
  | none =>
   cases lo with
   | none =>
    cases hi with
    | none=>simp only [pv,hx,hr,Option.map_none]
    | some h=>simp only [pv,hx,hr,Option.map_none,Option.map_some,he h (by simp [Op.operands])]
   | some l =>
    cases hi with
    | none=>simp only [pv,hx,hr,Option.map_none,Option.map_some,he l (by simp [Op.operands])]
    | some h=>simp only [pv,hx,hr,Option.map_some,he h (by simp [Op.operands]),he l (by simp [Op.operands])]
 | move x=>simp only [pv,he x (by simp [Op.operands])]
 | assign x=>simp only [pv,he x (by simp [Op.operands])]
 | pick c x y=>simp only [pv,he c (by simp [Op.operands]),he x (by simp [Op.operands]),he y (by simp [Op.operands])]
 | load t x=>simp only [pv,he x (by simp [Op.operands]),hr,hb]
 | nilCheck x=>simp only [pv,he x (by simp [Op.operands])]
 | binOp op t x y yt=>simp only [pv,he x (by simp [Op.operands]),he y (by simp [Op.operands])]
 | unOp op t x=>simp only [pv,he x (by simp [Op.operands])]
 | convert a b x=>simp only [pv,he x (by simp [Op.operands])]
 | makeInterface a x=>simp only [pv,he x (by simp [Op.operands])]
 | fieldAddr t x f=>simp only [pv,he x (by simp [Op.operands])]
 | field t x f=>simp only [pv,he x (by simp [Op.operands])]
 | indexAddr t x i=>simp only [pv,he x (by simp [Op.operands]),he i (by simp [Op.operands]),hr]
 | index t x i=>simp only [pv,he x (by simp [Op.operands]),he i (by simp [Op.operands])]
 | extract x i=>simp only [pv,he x (by simp [Op.operands])]
 | lookup t m x c =>
  cases c with
  | true=>simp only [pv,he m (by simp [Op.operands]),he x (by simp [Op.operands])]
  | false=>rfl
 | _=>rfl
theorem zJy {s':AS} (hr:s'.roots=s.roots) (hb:s'.boxes=s.boxes) (dst:Option Tmp) (op:Op) (he:∀ x∈op.operands,ev s' x=ev s x):zDs E s' dst op=zDs E s dst op:=by
 unfold zDs
 cases hw:zF8 op || zF5 E dst op with
 | true=>rfl
 | false =>
  cases hc:calls op with
  | true =>
   simp only
   cases op with
   | call c =>
    obtain ⟨callee,args,ats⟩:=c
    cases callee with
    | builtin b=>rfl
    | invoke r m=>rfl
    | value x =>
     have h1:ev s' x=ev s x:=he x (by simp [Op.operands,Call.operands])
     have h2:args.toList.map (ev s')=args.toList.map (ev s):=List.map_congr_left fun y hy=>he y (by simp [Op.operands,Call.operands]; exact .inr (by simpa using hy))
     simp only [zGM,h1,h2,zHX hr hb]
     split
     ·rfl
     ·rw [(zIp hr hb _ _ _).1,(zIp hr hb _ _ _).2]
     ·rw [(zIq hr _ _ _ _ _).1,(zIq hr _ _ _ _ _).2]
     ·rfl
   | _=>rfl
  | false=>exact zWB hr hb op he
theorem zLp {s':AS} (hr:s'.roots=s.roots) (hb:s'.boxes=s.boxes) (dst:Option Tmp) (op:Op) (he:∀ x∈op.operands,ev s' x=ev s x):zAA E s' dst op=zAA E s dst op:=by
 unfold zAA
 cases hm:mkOp E dst op with
 | true =>
  simp only
  cases op<;>try rfl
  rename_i t l c
  simp only [mkV,he l (by simp [Op.operands]),he c (by simp [Op.operands])]
 | false=>exact zJy hr hb dst op he
theorem zZF {dst:Option Tmp} {v:SV} {x:Operand} (h:∀ d,dst=some d→x≠.tmp d):ev (s.put dst v) x=ev s x:=by
 cases dst with
 | none=>rfl
 | some d =>
  cases x with
  | tmp t=>exact upd_ne _ _ fun e=>h d rfl (by rw [e])
  | const c=>rfl
  | func f=>rfl
  | global g=>rfl
theorem zVD (o:Oper) (dst:Option Tmp) (v:SV) (h:∀ d,dst=some d→d ∉ o.looksAt ops):gate ops (s.put dst v) o=gate ops s o:=by
 cases dst with
 | none=>rfl
 | some d =>
  unfold gate
  cases hg:o.guard with
  | none=>rfl
  | some gw =>
   obtain ⟨g,want⟩:=gw
   simp only
   cases ht:(ops[g]?).bind (·.dst) with
   | none=>rfl
   | some t =>
    have hne:t≠d:=fun e=>h d rfl (by subst e; simp [Oper.looksAt,hg,ht])
    have:(s.put (some d) v).env t=s.env t:=upd_ne _ _ hne
    simp only [this]
theorem zMI (o:Oper) (dst:Option Tmp) (v:SV) (h:∀ d,dst=some d→d ∉ o.looksAt ops):pStep E ops (s.put dst v) o=pStep E ops s o:=by
 unfold pStep
 rw [zVD o dst v h,zLp (s.put_roots dst v) (s.put_boxes dst v) o.dst o.op fun x hx=>zZF fun d hd hxd=>h d hd (by
  subst hxd
  exact List.mem_append_left _ (List.mem_filterMap.2 ⟨.tmp d,by simpa using hx,rfl⟩))]
theorem AS.put_comm (s:AS) {x y:Option Tmp} (v u:SV) (h:∀ d,x=some d→y≠some d):(s.put x v).put y u=(s.put y u).put x v:=by
 cases x with
 | none=>rfl
 | some d =>
  cases y with
  | none=>rfl
  | some e =>
   have hne:d≠e:=fun he=>h d rfl (by rw [he])
   simp only [AS.put,zW1 s.env v u hne]
def pOp (E:Know) (ops:Array Oper) (i:Nat) (K:AS→Prop) (s:AS):Prop:=match ops[i]? with
 | none=>K s
 | some o=>(pStep E ops s o).1∧K (s.put o.dst (pStep E ops s o).2)
theorem zP1 {i:Nat} {K K':AS→Prop} (h:∀ s,K s→K' s) (hh:pOp E ops i K s):pOp E ops i K' s:=by
 unfold pOp at *
 split
 ·rename_i he; rw [he] at hh; exact h _ hh
 ·rename_i o he; rw [he] at hh; exact ⟨hh.1,h _ hh.2⟩
theorem zT8 {j:Nat} {oi oj:Oper} {v:SV} (hj:ops[j]?=some oj) (hap:oi.apart ops oj=true) {K:AS→Prop} {s:AS}
 (hy:(pStep E ops s oi).1∧(pStep E ops s oi).2=v) (h:pOp E ops j K (s.put oi.dst v)) :
 pOp E ops j (fun s'=>((pStep E ops s' oi).1∧(pStep E ops s' oi).2=v)∧K (s'.put oi.dst v)) s:=by
 obtain ⟨h1,h2,h3⟩:=Oper.apart_spec hap
 unfold pOp at *
 simp only [hj] at *
 rw [zMI oj oi.dst v h1] at h
 refine ⟨h.1,?_,?_⟩
 ·rw [zMI oi oj.dst _ h3]
  exact hy
 ·rw [←AS.put_comm s v _ h2]
  exact h.2
def anyL (E:Know) (md:Region.Mode) (ops:Array Oper) (n:Nat) (L:Array Bool→AS→Prop):Nat→Array Bool→AS→Prop
 | 0,listed,s=>L listed s
 | f+1,listed,s=>Region.ready md ops listed≠[]∧∀ i∈Region.ready md ops listed,i<n∧pOp E ops i (anyL E md ops n L f (listed.setIfInBounds i true)) s
theorem zQs {n i:Nat} {oi:Oper} {v:SV} {L:Array Bool→AS→Prop} (hi:ops[i]?=some oi)
 (hs:Region.sinkB md ops n=true) (hc:Region.chainB md ops n=true) (hn:n<ops.size) (hin:i<n)
 (hdone:∀ listed s,L listed s→∀ j∈Region.ready md ops listed,n≤j) :
 ∀ (f:Nat) (listed:Array Bool) (s:AS),HeadInv md ops n listed →
  (∀ j oj,ops[j]?=some oj→j≠i→listed.getD j true=false→(∀ e∈oj.after,Region.binds md e=true→e.on≠i)→oi.apart ops oj=true) →
  i∈Region.ready md ops listed→(pStep E ops s oi).1∧(pStep E ops s oi).2=v →
  anyL E md ops n L f (listed.setIfInBounds i true) (s.put oi.dst v)→anyL E md ops n L (f+1) listed s:=by
 have own:∀ (f:Nat) (listed:Array Bool) (s:AS),(pStep E ops s oi).1∧(pStep E ops s oi).2=v→anyL E md ops n L f (listed.setIfInBounds i true) (s.put oi.dst v)→pOp E ops i (anyL E md ops n L f (listed.setIfInBounds i true)) s:=by
  intro f listed s hy H
  unfold pOp
  simp only [hi]
  exact ⟨hy.1,by rw [hy.2]; exact H⟩
 intro f
 induction f with
 | zero =>
  intro listed s inv _ hr hy H
  have hun:=(mem_ready.1 hr).1
  refine ⟨fun h=>(by rw [h] at hr; cases hr),fun j hj=>?_⟩
  have hjn:j<n:=by
   rcases Nat.lt_or_ge j n with h|h
   ·exact h
   ·exact absurd hj (tail_waits hs hc hn inv _ i rfl hin hun j h)
  refine ⟨hjn,?_⟩
  by_cases hji:j=i
  ·subst hji; exact own 0 listed s hy H
  ·have:=hdone _ _ H j (ready_mono hj hji)
   omega
 | succ f ih =>
  intro listed s inv hfree hr hy H
  have hun:=(mem_ready.1 hr).1
  refine ⟨fun h=>(by rw [h] at hr; cases hr),fun j hj=>?_⟩
  have hjn:j<n:=by
   rcases Nat.lt_or_ge j n with h|h
   ·exact h
   ·exact absurd hj (tail_waits hs hc hn inv _ i rfl hin hun j h)
  refine ⟨hjn,?_⟩
  by_cases hji:j=i
  ·subst hji; exact own (f+1) listed s hy H
  ·have h1:=(H.2 j (ready_mono hj hji)).2
   obtain ⟨hjun,oj,hoj,hall⟩:=mem_ready.1 hj
   have hnot:∀ e∈oj.after,Region.binds md e=true→e.on≠i:=fun e he hb heq=>by
    have h1:=hall e he hb
    rw [heq,getD_both hun] at h1
    cases h1
   have h2:=zT8 hoj (hfree j oj hoj hji hjun hnot) hy h1
   have hfree':∀ k ok,ops[k]?=some ok→k≠i→(listed.setIfInBounds j true).getD k true=false →
    (∀ e∈ok.after,Region.binds md e=true→e.on≠i)→oi.apart ops ok=true:=fun k ok hk hki hun hno=>by
    refine hfree k ok hk hki ?_ hno
    by_cases hjk:j=k
    ·subst hjk; exact hjun
    ·rw [getD_set_ne true hjk] at hun; exact hun
   refine zP1 (fun s' h3=>ih (listed.setIfInBounds j true) s' (inv.set hj hjn) hfree' (ready_mono hr (Ne.symm hji)) h3.1 ?_) h2
   rw [Array.setIfInBounds_comm _ _ hji]
   exact h3.2
theorem zPf {n g:Nat} {Lq:AS→Prop} (hs:Region.sinkB md ops n=true) (hc:Region.chainB md ops n=true) (hn:n<ops.size) :
 ∀ (l:List Oper) (k:Nat) (listed:Array Bool) (s:AS),(∀ j,j<l.length→l[j]?=ops[k+j]?)→k+l.length=n→HeadInv md ops n listed →
 Region.lexHead md ops g l.length k listed=true→runP E ops l s Lq →
 anyL E md ops n (fun listed' s'=>Region.seqB md ops g n listed'=true∧Lq s') l.length listed s
 | [],k,listed,s,_,hk,_,hB,h=>by
  have:k=n:=by simpa using hk
  subst this
  exact ⟨by simpa [Region.lexHead] using hB,h⟩
 | o::l,k,listed,s,hl,hk,inv,hB,h=>by
  have h0:ops[k]?=some o:=by simpa using (hl 0 (by simp)).symm
  simp only [List.length_cons,Region.lexHead,Bool.and_eq_true] at hB
  obtain ⟨⟨hr,hf⟩,hB'⟩:=hB
  have hkn:k<n:=by simp only [List.length_cons] at hk; omega
  have hr':k∈Region.ready md ops listed:=by simpa using hr
  simp only [runP] at h
  exact zQs h0 hs hc hn hkn (fun listed' s' hL=>seqB_ready hL.1) l.length listed s inv (Region.free_spec h0 hf) hr' ⟨h.1,rfl⟩
   (zPf hs hc hn l (k+1) _ _ (fun j hj=>by have:=hl (j+1) (by simp; omega); simpa [Nat.add_assoc,Nat.add_comm 1 j] using this) (by simp only [List.length_cons] at hk; omega) (inv.set hr' hkn) hB' h.2)
variable {C:Ctx} {γ:Gam} {a:Act} {w:World}
theorem zDw (hE:KnowOK C.P E) {N n g:Nat} {L:Array Bool→AS→Prop} {Q':Exit→Act→World→Prop} (hd:∀ (j:Nat) (o:Oper),ops[j]?=some o→dstOK N o.dst=true)
 (hL:∀ listed s γ a w,L listed s→Rel C γ s a w→a.tmps.size=N→wpAny C.P md ops Q' g listed a w) :
 ∀ (f:Nat) (listed:Array Bool) (s:AS) (γ:Gam) (a:Act) (w:World),Rel C γ s a w→a.tmps.size=N→anyL E md ops n L f listed s→wpAny C.P md ops Q' (f+g) listed a w
 | 0,listed,s,γ,a,w,hr,hN,h=>by rw [Nat.zero_add]; exact hL _ _ _ _ _ h hr hN
 | f+1,listed,s,γ,a,w,hr,hN,h=>by
  rw [show f+1+g=(f+g)+1 by omega]
  refine ⟨fun h0=>absurd h0 h.1,fun i hi=>?_⟩
  have h1:=(h.2 i hi).2
  unfold pOp at h1
  unfold wpOp
  split
  ·rename_i he
   rw [he] at h1
   exact zDw hE hd hL f _ s γ a w hr hN h1
  ·rename_i o he
   rw [he] at h1
   have h2:=zCY (ops:=ops) (Q:=Q') hE hr (by rw [hN]; exact hd) (o:=o) (by rw [hN]; exact hd i o he) (zJE (nl:=C.nl) h1.1 h1.2)
    (next:=wpAny C.P md ops Q' (f+g) (listed.setIfInBounds i true)) (fun s' γ' a' w' k1 k2 k3=>zDw hE hd hL f _ s' γ' a' w' k1 (k2.trans hN) k3)
   split
   ·rename_i hw
    rw [if_pos hw] at h2
    exact .inl h2
   ·rename_i hw
    rw [if_neg hw] at h2
    exact h2
theorem zY3 (hE:KnowOK C.P E) {id n:Nat} {l:List Oper} {Q:Exit→Act→World→Prop} {K:AS→Prop} {N:Nat} (hd:∀ (j:Nat) (o:Oper),l.toArray[j]?=some o→dstOK N o.dst=true)
 (hQ:∀ s' γ' a' w',Rel C γ' s' a' w'→a'.tmps.size=N→K s'→Q .normal a' w') (hN:a.tmps.size=N) (h:Rel C γ s a w) (hB:Region.lexTailB .any l.toArray n=true)
 (hk:runP E l.toArray (l.take n) s fun s'=>runK E C.nl l.toArray (l.drop n) s' K):(Code.region id l.toArray true).wp C.P Q a w:=by
 simp only [Region.lexTailB,Bool.and_eq_true,decide_eq_true_eq] at hB
 obtain ⟨⟨⟨⟨hsel,hn⟩,hs⟩,hc⟩,hlex⟩:=hB
 have hn':n<l.length:=by simpa using hn
 have htl:(l.take n).length=n:=by simp; omega
 have hdl:(l.drop n).length=l.toArray.size - n:=by simp
 have inv0:HeadInv .any l.toArray n (Array.replicate l.toArray.size false) :=
  ⟨by simp,fun j oj _ hl=>(by rw [getD_replicate_false] at hl; cases hl),fun t _ ht=>getD_in (by simpa using ht) (getD_replicate_false _ _)⟩
 have H:=zPf (E:=E) (md:=.any) (g:=l.toArray.size - n) hs hc hn (l.take n) 0 _ s (fun j hj=>by
  have hj':j<n:=by rw [htl] at hj; exact hj
  simp [hj']) (by simpa using htl) inv0 (by rw [htl]; exact hlex) hk
 refine wp_region_any hE.lang.mixed ?_
 have hr:Rel C γ s a {w with drawn:=w.drawn+1}:=h.world ⟨rfl,rfl,rfl,Nat.le_refl _,fun _ _ _=>rfl⟩
 have:=zDw (Q':=Q) (g:=l.toArray.size - n) hE hd (fun listed s' γ' a' w' hL h1 h2=>by
  have h3:=zDE (ops:=l.toArray) hE hd hQ (l.drop n) s' γ' a' w' (fun o ho=>by
   obtain ⟨j,hj⟩:=List.mem_iff_getElem?.1 (List.mem_of_mem_drop ho)
   exact hd j o (by simpa using hj)) h2 h1 hL.2
  have:=wpAny_of_seq (md:=.any) (Q':=Q) (l.drop n) n listed a' w' (fun j=>by simp [List.getElem?_drop]) (by rw [hdl]; exact hL.1) h3
  rwa [hdl] at this) _ _ _ _ _ _ hr hN H
 rw [htl,show n+(l.toArray.size - n)=l.toArray.size by omega] at this
 exact this
end
end Go.VS
namespace Go.VS
open Go.RowKit
structure tri (C:Ctx) (N:Nat) (c:Code) (Q:Exit→AS→Prop) (s:AS):Prop where
 run:∀ γ a w,Rel C γ s a w→a.tmps.size=N→c.wp C.P (fun e a' w'=>∃ s' γ',Rel C γ' s' a' w'∧a'.tmps.size=N∧Q e s') a w
def thenQ (next:AS→Prop) (Q:Exit→AS→Prop):Exit→AS→Prop
 | .normal,s=>next s
 | e,s=>Q e s
def zAh (id:Nat) (Q:Exit→AS→Prop):Exit→AS→Prop
 | .exit id',s=>if id'=id then Q .normal s else Q (.exit id') s
 | e,s=>Q e s
def zEe (N:Nat) (ops:List Oper):Bool:=ops.all fun o=>dstOK N o.dst
section
variable {C:Ctx} {N:Nat} {Q:Exit→AS→Prop} {s t:AS} {E:Know}
theorem zBp {ops:Array Oper} (h:zEe N ops.toList=true) (j:Nat) (o:Oper) (ho:ops[j]?=some o):dstOK N o.dst=true :=
 List.all_eq_true.1 h o (Array.mem_toList_iff.2 (Array.mem_of_getElem? ho))
theorem zWZ {c:Code} {Q':Exit→AS→Prop} (h:tri C N c Q s) (hq:∀ e s,Q e s→Q' e s):tri C N c Q' s :=
 ⟨fun γ a w hr hN=>wp_mono (h.run γ a w hr hN) fun _ _ _ ⟨s',γ',h1,h2,h3⟩=>⟨s',γ',h1,h2,hq _ _ h3⟩⟩
theorem zAo {c:Code} (hw:Weak C.nl s t) (h:tri C N c Q t):tri C N c Q s :=
 ⟨fun _ a w hr hN=>h.run _ a w (hw.rel hr) hN⟩
theorem zC7 {c:Code} (i d r:Nat) {e:TypeId} {sh:Sh} {xs:List sh.T} (hi:s.env i=.one (.mk d e sh xs)) (hr:C.nl≤r) (h:tri C N c Q (thaw s i d r e sh xs)):tri C N c Q s:=by
 refine ⟨fun γ a w hR hN=>?_⟩
 obtain ⟨γ',hR'⟩:=zWU hR hi hr
 exact h.run γ' a w hR' hN
theorem zAg (h:Q .normal s):tri C N .skip Q s:=⟨fun γ _ _ hr hN=>wp_skip ⟨s,γ,hr,hN,h⟩⟩
theorem zAj {id:Nat} (h:Q (.exit id) s):tri C N (.exit id) Q s:=⟨fun γ _ _ hr hN=>wp_exit ⟨s,γ,hr,hN,h⟩⟩
theorem zAi (h:Q .ret s):tri C N .ret Q s:=⟨fun γ _ _ hr hN=>wp_ret ⟨s,γ,hr,hN,h⟩⟩
theorem zYV {x y:Code} (h:tri C N x (thenQ (tri C N y Q) Q) s):tri C N (.seq x y) Q s:=by
 refine ⟨fun γ a w hr hN=>?_⟩
 refine wp_seq (wp_mono (h.run γ a w hr hN) ?_)
 rintro e a' w' ⟨s',γ',h1,h2,h3⟩
 cases e with
 | normal=>exact h3.run γ' a' w' h1 h2
 | _=>exact ⟨s',γ',h1,h2,h3⟩
theorem zAe {c:Operand} {x y:Code} {b:Bool} (hc:ev s c=.one (.val .bool b)) (h1:b=true→tri C N x Q s) (h2:b=false→tri C N y Q s):tri C N (.cond c x y) Q s:=by
 refine ⟨fun γ a w hr hN=>?_⟩
 have hv:=zAn hr c
 rw [hc] at hv
 exact wp_cond_split (zFV hv) (fun hb=>(h1 hb).run γ a w hr hN) (fun hb=>(h2 hb).run γ a w hr hN)
theorem zAd {id:Nat} {c:Code} (h:tri C N c (zAh id Q) s):tri C N (.block id c) Q s:=by
 refine ⟨fun γ a w hr hN=>?_⟩
 refine wp_block (wp_mono (h.run γ a w hr hN) ?_)
 rintro e a' w' ⟨s',γ',h1,h2,h3⟩
 cases e with
 | exit id' =>
  simp only [zAh] at h3
  simp only [Exit.inBlock]
  split
  ·rename_i hid; rw [if_pos hid] at h3; exact ⟨s',γ',h1,h2,h3⟩
  ·rename_i hid; rw [if_neg hid] at h3; exact ⟨s',γ',h1,h2,h3⟩
 | _=>exact ⟨s',γ',h1,h2,h3⟩
theorem zWY {c:Code} {α:Type} (F:α→AS) (m:α→Nat) (x0:α) (h0:Weak C.nl s (F x0))
 (round:∀ x,tri C N c (thenQ (fun s'=>∃ y,Weak C.nl s' (F y)∧m y<m x) Q) (F x)):tri C N (.loop c) Q s:=by
 refine ⟨fun γ a w hr hN=>?_⟩
 refine wp_loop_ghost (fun n a w=>∃ x γ,m x=n∧Rel C γ (F x) a w∧a.tmps.size=N) (m x0) ⟨x0,_,rfl,h0.rel hr,hN⟩ ?_
 rintro n a w ⟨x,γ,rfl,hr,hN⟩
 refine wp_mono ((round x).run γ a w hr hN) ?_
 rintro e a' w' ⟨s',γ',h1,h2,h3⟩
 cases e with
 | normal =>
  obtain ⟨y,hw,hlt⟩:=h3
  exact ⟨m y,hlt,y,_,rfl,hw.rel h1,h2⟩
 | _=>exact ⟨s',γ',h1,h2,h3⟩
theorem zAa (hE:KnowOK C.P E) {id:Nat} {l:List Oper} (hd:zEe N l=true) (h:runK E C.nl l.toArray l s (Q .normal)):tri C N (.region id l.toArray false) Q s:=by
 refine ⟨fun γ a w hr hN=>?_⟩
 have hd':∀ (j:Nat) (o:Oper),l.toArray[j]?=some o→dstOK N o.dst=true:=fun j o ho=>zBp (ops:=l.toArray) (by simpa using hd) j o ho
 refine wp_region_lit (zDE (K:=Q .normal) (N:=N) hE hd' (fun s' γ' a' w' h1 h2 h3=>⟨s',γ',h1,h2,h3⟩) l s γ a w (fun o ho=>List.all_eq_true.1 hd o ho) hN hr h)
theorem zWW (hE:KnowOK C.P E) (n:Nat) {id:Nat} {l:List Oper} (hd:zEe N l=true) (hB:Region.lexTailB .any l.toArray n=true)
 (h:runQ E l.toArray (l.take n) s fun s'=>runK E C.nl l.toArray (l.drop n) s' (Q .normal)):tri C N (.region id l.toArray true) Q s:=by
 refine ⟨fun γ a w hr hN=>?_⟩
 have hd':∀ (j:Nat) (o:Oper),l.toArray[j]?=some o→dstOK N o.dst=true:=fun j o ho=>zBp (ops:=l.toArray) (by simpa using hd) j o ho
 exact zY3 (K:=Q .normal) (N:=N) hE hd' (fun s' γ' a' w' h1 h2 h3=>⟨s',γ',h1,h2,h3⟩) hN hr hB (zD6 _ _ h)
def resSV (E:Know) (s:AS):ResultVar→Prop×SV
 | .tmp t=>(True,s.env t)
 | .cell t ty=>pv E.G s (.load ty (.tmp t))
def zAw:Nat→List (Prop×SV)→List RV→List (Nat×RC)
 | j,p::l,.own rc::r=>(match p.2 with
  | .one (.ref q)=>q
  | _=>1000000+j,rc)::zAw (j+1) l r
 | j,_::l,_::r=>zAw (j+1) l r
 | _,_,_=>[]
def zAz:List (Prop×SV)→List RV→List Nat
 | p::l,.obj _::r=>(match p.2 with
  | .one (.box q)=>q
  | _=>0)::zAz l r
 | _::l,_::r=>zAz l r
 | _,_=>[]
def zXe (ids:List Nat):SV→Prop
 | .one (.ref q)|.one (.refi q _)=>q ∉ ids
 | _=>True
def zBh (s:AS) (nl:Nat) (ids:List Nat):Nat→List (Prop×SV)→List RV→Prop
 | _,[],[]=>True
 | j,p::l,.val sh x::r=>p.1∧zDW s sh p.2=some x∧zXe ids p.2∧zBh s nl ids (j+1) l r
 | j,p::l,.own rc::r=>p.1∧(match p.2 with
  | .one (.ref q)=>zHI s q=some rc
  | .one .nils=>s.roots (1000000+j)=none∧nl≤1000000+j∧emptyRC rc
  | _=>False)∧zBh s nl ids (j+1) l r
 | j,p::l,.nil::r=>p.1∧p.2=.one .nils∧zBh s nl ids (j+1) l r
 | j,p::l,.raw u::r=>p.1∧p.2=.one (.raw u)∧zBh s nl ids (j+1) l r
 | j,p::l,.ifc::r=>p.1∧p.2=.one .ifc∧zBh s nl ids (j+1) l r
 | j,p::l,.any::r=>p.1∧True∧zBh s nl ids (j+1) l r
 | j,p::l,.obj o::r=>p.1∧(match p.2 with
  | .one (.box q)=>s.boxes q=some (o.sv q)
  | _=>False)∧zBh s nl ids (j+1) l r
 | _,_,_=>False
def retOK (E:Know) (nl:Nat) (rs:List ResultVar) (o:Out) (s:AS):Prop :=
 zBh s nl ((zAw 0 (rs.map (resSV E s)) o.res++o.left).map (·.1)) 0 (rs.map (resSV E s)) o.res ∧
 ((zAw 0 (rs.map (resSV E s)) o.res++o.left).map (·.1)).Nodup∧(∀ p∈o.left,zHI s p.1=some p.2∧p.1<nl) ∧
 (zAz (rs.map (resSV E s)) o.res++o.objs.map (·.1)).Nodup∧∀ p∈o.objs,s.boxes p.1=some (p.2.sv p.1)∧p.1<nl
def retQ (E:Know) (nl:Nat) (rs:List ResultVar) (o:Out):Exit→AS→Prop
 | .normal,s|.ret,s=>retOK E nl rs o s
 | _,_=>False
variable {γ:Gam} {a:Act} {w:World}
theorem zL2 {sh:Sh} {b:BV} {x:sh.T} (hv:zE1 s sh b=some x) (hf:∀ q,q∈names b→t.roots q=none):convS s t b (.val sh x):=by
 unfold zE1 at hv
 split at hv
 ·obtain ⟨rfl,rfl⟩:=zBm hv
  exact ⟨rfl,fun r hr=>by simp [names] at hr⟩
 ·split at hv
  ·simp only [Option.some.injEq] at hv
   subst hv
   exact ⟨_,rfl⟩
  ·cases hv
 ·split at hv
  ·simp only [Option.some.injEq] at hv
   subst hv
   exact ⟨_,rfl⟩
  ·cases hv
 ·rename_i r
  refine ⟨hf r (by simp [names]),?_⟩
  split at hv
  ·rename_i e a xs hr
   obtain ⟨rfl,rfl⟩:=zBm hv
   simp only [hr]
  ·rename_i e e2 a xss hr
   obtain ⟨rfl,rfl⟩:=zBm hv
   simp only [hr]
  ·cases hv
 ·rename_i r i
  refine ⟨hf r (by simp [names]),?_⟩
  split at hv
  ·rename_i e e2 a xss hr
   split at hv
   ·rename_i hi
    obtain ⟨rfl,rfl⟩:=zBm hv
    simp only [hr]
    exact ⟨hi,trivial⟩
   ·cases hv
  ·cases hv
 ·cases hv
def Still {α:Type} (S:Sem α):Prop:=∀ (P:Program) (w w':World) (v:α),S.run P w=.ok v w'→w'=w
theorem Still.pure {α:Type} (x:α):Still (Pure.pure x:Sem α):=fun P w w' v h=>by
 simp only [Sem.run_pure,Result.ok.injEq] at h
 exact h.2.symm
theorem Still.bind {α β:Type} {S:Sem α} {f:α→Sem β} (h1:Still S) (h2:∀ x,Still (f x)):Still (S >>= f):=by
 intro P w w' v h
 rw [Sem.run_bind] at h
 cases hS:S.run P w with
 | ok x w1 =>
  rw [hS] at h
  simp only [Result.andThen_ok] at h
  have:=h1 P w w1 x hS
  subst this
  exact h2 x P _ _ _ h
 | halt x w1 =>
  rw [hS] at h
  simp [Result.andThen] at h
theorem zKw (ad:Addr):Still (load ad):=by
 intro P w w' v h
 simp only [load,Sem.run] at h
 split at h
 ·simp only [Result.ok.injEq] at h; exact h.2.symm
 ·split at h
  ·simp only [Result.ok.injEq] at h; exact h.2.symm
  ·simp at h
theorem zGY:Still program:=fun P w w' v h=>by
 simp only [program,Sem.run,Result.ok.injEq] at h
 exact h.2.symm
theorem zJk {α:Type} (m:String):Still (stuck m:Sem α):=fun P w w' v h=>by
 simp [stuck,Sem.run] at h
theorem zRZ (t:TypeId):Still (typeInfo t):=by
 refine Still.bind zGY fun p=>?_
 cases p.info? t with
 | none=>exact zJk _
 | some i=>exact Still.pure i
theorem zOV (t:TypeId):Still (underlying t):=by
 refine Still.bind zGY fun p=>?_
 cases p.underlying t with
 | none=>exact zJk _
 | some i=>exact Still.pure i
theorem zJj (ad:Addr):∀ (n i:Nat) (acc:Array Value),Still (loadCellsFrom ad i n acc)
 | 0,_,acc=>Still.pure acc
 | n+1,i,_=>Still.bind (zKw _) fun _=>zJj ad n (i+1) _
theorem zGX (t:TypeId) (ad:Addr):Still (loadVar t ad):=by
 unfold loadVar isAgg sizeOf
 refine Still.bind (Still.bind (zOV t) fun d=>?_) fun b=>?_
 ·cases d<;>exact Still.pure _
 ·cases b with
  | true=>exact Still.bind (Still.bind (zRZ t) fun i=>Still.pure _) fun n=>Still.bind (zJj ad n 0 #[]) fun cs=>Still.pure _
  | false=>exact zKw ad
theorem zMX (hE:KnowOK C.P E) (h:Rel C γ s a w) (r:ResultVar) (hc:(resSV E s r).1):∃ v,((match r with
 | .tmp t=>pure (a.tmps.getD t undef)
 | .cell x t=>do loadVar t (←asAddr (a.tmps.getD x undef)):Sem Value)).run C.P w=.ok v w∧svRep C γ w (resSV E s r).2 v:=by
 cases r with
 | tmp t=>exact ⟨_,rfl,h.env t⟩
 | cell x ty =>
  obtain ⟨v,w',h1,h2,h3⟩:=zP5 hE.lang h ⟨none,.load ty (.tmp x), 0, "",#[],none⟩ hc
  have hx:∃ ad,a.tmps.getD x undef=.pointer (some ad):=by
   have he:=h.env x
   simp only [resSV,pv,ev] at hc
   split at hc
   ·rename_i hb; rw [hb] at he; obtain ⟨b,off,cs,e1,_⟩:=he; exact ⟨_,e1⟩
   ·rename_i hb; rw [hb] at he; obtain ⟨b,off,cs,e1,_⟩:=he; exact ⟨_,e1⟩
   ·rename_i hb; rw [hb] at he; obtain ⟨g,n,cap,_,e1⟩:=he; exact ⟨_,e1⟩
   ·rename_i hb; rw [hb] at he; obtain ⟨g,n,cap,_,e1⟩:=he; exact ⟨_,e1⟩
   ·rename_i hb; rw [hb] at he; obtain ⟨g,n,cap,_,e1⟩:=he; exact ⟨_,e1⟩
   ·rename_i hb; rw [hb] at he; exact ⟨_,he⟩
   ·rename_i hb; rw [hb] at he; exact ⟨_,he⟩
   ·exact hc.elim
  obtain ⟨ad,hx⟩:=hx
  have hl:(loadVar ty ad).run C.P w=.ok v w:=by
   have h4:(do let y ←loadVar ty ad; pure (Next.value y):Sem Next).run C.P w=.ok (.value v) w':=by
    have h5:a.eval (.tmp x)=.pointer (some ad):=hx
    simpa only [execOp,Instr.loadAt,Instr.sureAddr,h5,pure_bind] using h1
   rw [Sem.run_bind] at h4
   cases hr:(loadVar ty ad).run C.P w with
   | ok u w1 =>
    rw [hr] at h4
    simp only [Result.andThen_ok,Sem.run_pure,Result.ok.injEq,Next.value.injEq] at h4
    rw [zGX ty ad C.P w w1 u hr,h4.1]
   | halt u w1 =>
    rw [hr] at h4
    simp [Result.andThen] at h4
  have hw:w'=w:=by
   have h4:(do let y ←loadVar ty ad; pure (Next.value y):Sem Next).run C.P w=.ok (.value v) w':=by
    have h5:a.eval (.tmp x)=.pointer (some ad):=hx
    simpa only [execOp,Instr.loadAt,Instr.sureAddr,h5,pure_bind] using h1
   exact (Still.bind (zGX ty ad) fun y=>Still.pure _) C.P w w' _ h4
  subst hw
  refine ⟨v,?_,h3⟩
  simp only [hx,asAddr,pure_bind]
  exact hl
end
end Go.VS
namespace Go.VS
open Go.RowKit
theorem zGS {α β:Type} {P:Program} {w:World} {f:α→Sem β} {g:α→β}:∀ (l:List α),(∀ x∈l,(f x).run P w=.ok (g x) w)→(l.mapM f).run P w=.ok (l.map g) w
 | [],_=>by simp
 | x::l,h=>by
  rw [List.mapM_cons]
  simp only [Sem.run_bind,h x (by simp),Result.andThen_ok,zGS l (fun y hy=>h y (by simp [hy])),Sem.run_pure,List.map_cons]
theorem zHT {α β:Type} {P:Program} {w:World} {f:α→Sem β} {g:α→β} (as_:Array α) (h:∀ x∈as_.toList,(f x).run P w=.ok (g x) w):(as_.mapM f).run P w=.ok (as_.map g) w:=by
 rw [Array.mapM_eq_mapM_toList,map_eq_pure_bind,Sem.run_bind,zGS as_.toList h]
 simp only [Result.andThen_ok,Sem.run_pure,Result.ok.injEq,and_true]
 rw [←Array.toList_map,Array.toArray_toList]
def enumE:Nat→List BV→List (Nat×SV)
 | _,[]=>[]
 | i,b::bs=>(i,.one b)::enumE (i+1) bs
def entry (as_:List AD) (x:TupA as_):AS:=AS.of (enumE 0 (zAP 0 as_ x)) (zAC 0 as_ x) ((zAQ 0 as_ x).map fun p=>(p.1,p.2.sv p.1))
section
variable {C:Ctx} {E:Know} {γ:Gam} {s:AS} {a:Act} {w:World}
theorem zMb:∀ (bs:List BV) (k i:Nat),lk (.one .any) (enumE k bs) i=(if k≤i then match bs[i - k]? with
 | some b=>SV.one b
 | none=>.one .any else .one .any)
 | [],k,i=>by simp [enumE,lk]
 | b::bs,k,i=>by
  simp only [enumE,lk]
  by_cases h:i=k
  ·subst h; simp
  ·rw [if_neg h,zMb bs (k+1) i]
   by_cases h2:k≤i
   ·rw [if_pos (by omega),if_pos h2]
    have:i - k=(i - (k+1))+1:=by omega
    rw [this,List.getElem?_cons_succ]
   ·rw [if_neg h2,if_neg (by omega)]
theorem zEi {P:Program} {as_:List AD} {x:TupA as_} {vs:List Value} (h:Entry C γ P as_ x vs) (n:Nat):Rel C γ (entry as_ x) {tmps:=vs.toArray++Array.replicate n undef,defers:=[]} C.w0:=by
 refine ⟨⟨h.ds.1.symm,h.ds.2⟩,Keep.refl _ _,h.ownlt,h.lent,fun i=>?_,fun r rc hr=>?_,fun b sv hb=>?_⟩
 ·simp only [entry,AS.of,zMb,Nat.zero_le,if_true,Nat.sub_zero]
  split
  ·rename_i b hb
   have hl:=zA0 _ _ h.args
   have hi:=(List.getElem?_eq_some_iff.1 hb).1
   obtain ⟨v,h1,h2⟩:=zDx _ _ h.args i hi
   have hb':(zAP 0 as_ x).getD i .any=b:=by simp [List.getD_eq_getElem?_getD,hb]
   rw [hb'] at h2
   have hlt:i<vs.length:=by omega
   have:(vs.toArray++Array.replicate n undef).getD i undef=v:=by
    simp only [Array.getD_eq_getD_getElem?]
    rw [Array.getElem?_append_left (by simpa using hlt)]
    simp [h1]
   rw [this]
   exact h2
  ·trivial
 ·simp only [entry,AS.of] at hr
  obtain ⟨v,h1,rfl⟩:=zEn (g:=fun x:RC=>x) hr
  exact h.roots _ h1
 ·simp only [entry,AS.of,List.map_map] at hb
  rcases zIO (none:Option SV) ((zAQ 0 as_ x).map fun p=>(p.1,some (p.2.sv p.1))) b with e|e
  ·have hb':lk none ((zAQ 0 as_ x).map fun p=>(p.1,some (p.2.sv p.1))) b=some sv:=hb
   rw [hb'] at e; cases e
  ·have hb':lk none ((zAQ 0 as_ x).map fun p=>(p.1,some (p.2.sv p.1))) b=some sv:=hb
   rw [hb'] at e
   obtain ⟨p,k1,k2⟩:=List.mem_map.1 e
   simp only [Prod.mk.injEq,Option.some.injEq] at k2
   obtain ⟨rfl,rfl⟩:=k2
   exact h.objs p k1
theorem zBP {nl:Nat} {t:AS} {ids:List Nat} (h:Rel C γ s a w) (ht:∀ q,q ∉ ids→t.roots q=none) (hsub:∀ q rc,t.roots q=some rc→zKk C (zAI γ s t) w q rc) :
 ∀ (j:Nat) (l:List (Prop×SV)) (vs:List Value) (res:List RV),zBh s nl ids j l res→(∀ p∈zAw j l res,t.roots p.1=some p.2)→(∀ q∈zAz l res,∀ o:Ob,s.boxes q=some (o.sv q)→bxRep C (zAI γ s t) w q (o.sv q)) →
 l.length=vs.length→(∀ (i:Nat) (p:Prop×SV) (v:Value),l[i]?=some p→vs[i]?=some v→svRep C γ w p.2 v)→zCN C (zAI γ s t) w res ((zAw j l res).map (·.1)) (zAz l res) vs
 | _,[],[],[],_,_,_,_,_=>⟨rfl,rfl,rfl⟩
 | _,[],_::_,_,_,_,_,hl,_=>by simp at hl
 | _,_::_,[],_,_,_,_,hl,_=>by simp at hl
 | _,_::_,_,[],hm,_,_,_,_=>by simp [zBh] at hm
 | _,[],[],_::_,hm,_,_,_,_=>by simp [zBh] at hm
 | j,p::l,v::vs,.val sh x::r,hm,hi,hbx,hl,hr=>by
  obtain ⟨h1,h2,h3,h4⟩:=hm
  have hown:zAw j (p::l) (.val sh x::r)=zAw (j+1) l r:=by simp only [zAw]
  have hobj:zAz (p::l) (.val sh x::r)=zAz l r:=by simp only [zAz]
  rw [hown] at hi ⊢
  rw [hobj] at hbx ⊢
  refine ⟨v,vs,rfl,?_,zBP h ht hsub (j+1) l vs r h4 hi hbx (by simpa using hl) (fun i p' v' e1 e2=>hr (i+1) p' v' (by simpa using e1) (by simpa using e2))⟩
  have hv:=hr 0 p v rfl rfl
  obtain ⟨c,sv⟩:=p
  unfold zDW at h2
  split at h2
  ·rename_i b hb
   simp only at hb
   subst hb
   refine zH5 h (.inr (zL2 h2 fun q hq=>?_)) hv
   refine ht q ?_
   cases b<;>simp only [names,List.mem_singleton,List.not_mem_nil] at hq<;>first
    | (subst hq; exact h3)
    | (simp [zE1] at h2)
    | exact hq.elim
  ·cases h2
 | j,p::l,v::vs,.nil::r,hm,hi,hbx,hl,hr=>by
  obtain ⟨h1,h2,h4⟩:=hm
  have hown:zAw j (p::l) (.nil::r)=zAw (j+1) l r:=by simp only [zAw]
  have hobj:zAz (p::l) (.nil::r)=zAz l r:=by simp only [zAz]
  rw [hown] at hi ⊢
  rw [hobj] at hbx ⊢
  have hv:=hr 0 p v rfl rfl
  rw [h2] at hv
  obtain rfl:v=.slice none 0 0:=hv
  exact ⟨vs,rfl,zBP h ht hsub (j+1) l vs r h4 hi hbx (by simpa using hl) (fun i p' v' e1 e2=>hr (i+1) p' v' (by simpa using e1) (by simpa using e2))⟩
 | j,p::l,v::vs,.own rc::r,hm,hi,hbx,hl,hr=>by
  obtain ⟨h1,h2,h4⟩:=hm
  obtain ⟨c,sv⟩:=p
  have hobj:zAz ((c,sv)::l) (.own rc::r)=zAz l r:=by simp only [zAz]
  rw [hobj] at hbx ⊢
  simp only [zAw,List.map_cons] at hi ⊢
  have htail:=zBP h ht hsub (j+1) l vs r h4 (fun p' hp'=>hi p' (List.mem_cons_of_mem _ hp')) hbx (by simpa using hl) (fun i p' v' e1 e2=>hr (i+1) p' v' (by simpa using e1) (by simpa using e2))
  have hv:=hr 0 (c,sv) v rfl rfl
  have ht0:=hi _ (List.mem_cons_self ..)
  simp only at ht0 h2
  split at h2
  ·rename_i q
   refine ⟨v,vs,q,_,rfl,rfl,?_,hsub q rc ht0,htail⟩
   have hn:newR s t q=false:=by simp [newR,(zCW h2).1]
   show v=(if newR s t q=true then (⟨none,0,0⟩:Sl) else γ.hs q).v
   rw [hn]
   exact hv
  ·refine ⟨v,vs,1000000+j,_,rfl,rfl,?_,hsub _ rc ht0,htail⟩
   have hn:newR s t (1000000+j)=true:=by simp [newR,h2.1,ht0]
   show v=(if newR s t (1000000+j)=true then (⟨none,0,0⟩:Sl) else γ.hs (1000000+j)).v
   rw [hn]
   exact hv
  ·exact h2.elim
 | j,p::l,v::vs,.raw u::r,hm,hi,hbx,hl,hr=>by
  obtain ⟨h1,h2,h4⟩:=hm
  have hown:zAw j (p::l) (.raw u::r)=zAw (j+1) l r:=by simp only [zAw]
  have hobj:zAz (p::l) (.raw u::r)=zAz l r:=by simp only [zAz]
  rw [hown] at hi ⊢
  rw [hobj] at hbx ⊢
  have hv:=hr 0 p v rfl rfl
  have htl:=zBP h ht hsub (j+1) l vs r h4 hi hbx (by simpa using hl) (fun i p' v' e1 e2=>hr (i+1) p' v' (by simpa using e1) (by simpa using e2))
  rw [h2] at hv
  obtain rfl:v=u:=hv
  exact ⟨vs,rfl,htl⟩
 | j,p::l,v::vs,.ifc::r,hm,hi,hbx,hl,hr=>by
  obtain ⟨h1,h2,h4⟩:=hm
  have hown:zAw j (p::l) (.ifc::r)=zAw (j+1) l r:=by simp only [zAw]
  have hobj:zAz (p::l) (.ifc::r)=zAz l r:=by simp only [zAz]
  rw [hown] at hi ⊢
  rw [hobj] at hbx ⊢
  have hv:=hr 0 p v rfl rfl
  have htl:=zBP h ht hsub (j+1) l vs r h4 hi hbx (by simpa using hl) (fun i p' v' e1 e2=>hr (i+1) p' v' (by simpa using e1) (by simpa using e2))
  rw [h2] at hv
  obtain ⟨t',u,rfl⟩:=hv
  exact ⟨t',u,vs,rfl,htl⟩
 | j,p::l,v::vs,.any::r,hm,hi,hbx,hl,hr=>by
  obtain ⟨h1,h2,h4⟩:=hm
  have hown:zAw j (p::l) (.any::r)=zAw (j+1) l r:=by simp only [zAw]
  have hobj:zAz (p::l) (.any::r)=zAz l r:=by simp only [zAz]
  rw [hown] at hi ⊢
  rw [hobj] at hbx ⊢
  have hv:=hr 0 p v rfl rfl
  have htl:=zBP h ht hsub (j+1) l vs r h4 hi hbx (by simpa using hl) (fun i p' v' e1 e2=>hr (i+1) p' v' (by simpa using e1) (by simpa using e2))
  exact ⟨v,vs,rfl,htl⟩
 | j,p::l,v::vs,.obj o::r,hm,hi,hbx,hl,hr=>by
  obtain ⟨h1,h2,h4⟩:=hm
  have hown:zAw j (p::l) (.obj o::r)=zAw (j+1) l r:=by simp only [zAw]
  rw [hown] at hi ⊢
  obtain ⟨c,sv⟩:=p
  have hv:=hr 0 (c,sv) v rfl rfl
  simp only [zAz] at hbx ⊢
  have htl:=zBP h ht hsub (j+1) l vs r h4 hi (fun q hq=>hbx q (List.mem_cons_of_mem _ hq)) (by simpa using hl) (fun i p' v' e1 e2=>hr (i+1) p' v' (by simpa using e1) (by simpa using e2))
  simp only at h2
  split at h2
  ·rename_i q
   have hv':v=.pointer (some ⟨γ.bx q,0,none⟩):=hv
   refine ⟨vs,q,_,by rw [hv']; rfl,rfl,hbx q (List.mem_cons_self ..) o h2,htl⟩
  ·exact h2.elim
theorem zDq {nl:Nat} {ids:List Nat}:∀ (j:Nat) (l:List (Prop×SV)) (res:List RV),zBh s nl ids j l res→∀ q∈zAz l res,∃ o:Ob,s.boxes q=some (o.sv q)
 | _,[],_,_,p,hp=>by simp [zAz] at hp
 | _,_::_,[],hm,_,_=>by simp [zBh] at hm
 | j,q::l,.val sh x::r,hm,p,hp=>by
  obtain ⟨_,_,_,h4⟩:=hm
  exact zDq (j+1) l r h4 p (by simpa [zAz] using hp)
 | j,q::l,.nil::r,hm,p,hp|j,q::l,.own _::r,hm,p,hp|j,q::l,.raw _::r,hm,p,hp|j,q::l,.ifc::r,hm,p,hp|j,q::l,.any::r,hm,p,hp=>by
  obtain ⟨_,_,h4⟩:=hm
  exact zDq (j+1) l r h4 p (by simpa [zAz] using hp)
 | j,q::l,.obj o::r,hm,p,hp=>by
  obtain ⟨_,h2,h4⟩:=hm
  obtain ⟨c,sv⟩:=q
  simp only [zAz,List.mem_cons] at hp
  rcases hp with hp|hp
  ·simp only at h2
   split at h2
   ·subst hp; exact ⟨o,h2⟩
   ·exact h2.elim
  ·exact zDq (j+1) l r h4 p hp
theorem zPm (t:AS) (k:Nat):∀ (fs:List Fd) (x:FdT fs),convs s t (fdBVs k fs x) (fdBVs k fs x)
 | [],_=>trivial
 | f::fs,x=>by
  refine ⟨.inr ?_,zPm t k fs x.2⟩
  cases f<;>exact ⟨rfl,fun r hr=>by simp [fdBV,names] at hr⟩
theorem zDt {nl:Nat} {ids:List Nat}:∀ (j:Nat) (l:List (Prop×SV)) (res:List RV),zBh s nl ids j l res→∀ p∈zAw j l res,s.roots p.1=some p.2∨(s.roots p.1=none∧nl≤p.1∧emptyRC p.2)
 | _,[],_,_,p,hp=>by simp [zAw] at hp
 | _,_::_,[],hm,_,_=>by simp [zBh] at hm
 | j,q::l,.val sh x::r,hm,p,hp=>by
  obtain ⟨_,_,_,h4⟩:=hm
  exact zDt (j+1) l r h4 p (by simpa [zAw] using hp)
 | j,q::l,.nil::r,hm,p,hp|j,q::l,.raw _::r,hm,p,hp|j,q::l,.ifc::r,hm,p,hp|j,q::l,.any::r,hm,p,hp|j,q::l,.obj _::r,hm,p,hp=>by
  obtain ⟨_,_,h4⟩:=hm
  exact zDt (j+1) l r h4 p (by simpa [zAw] using hp)
 | j,q::l,.own rc::r,hm,p,hp=>by
  obtain ⟨_,h2,h4⟩:=hm
  simp only [zAw,List.mem_cons] at hp
  rcases hp with rfl|hp
  ·obtain ⟨c,sv⟩:=q
   simp only at h2 ⊢
   split at h2
   ·exact .inl (zCW h2).1
   ·exact .inr h2
   ·exact h2.elim
  ·exact zDt (j+1) l r h4 p hp
theorem zC6 {nl:Nat} {ids:List Nat}:∀ (j:Nat) (l:List (Prop×SV)) (res:List RV),zBh s nl ids j l res→∀ p∈zAw j l res,whole p.2=true
 | _,[],_,_,p,hp=>by simp [zAw] at hp
 | _,_::_,[],hm,_,_=>by simp [zBh] at hm
 | j,q::l,.val sh x::r,hm,p,hp=>by
  obtain ⟨_,_,_,h4⟩:=hm
  exact zC6 (j+1) l r h4 p (by simpa [zAw] using hp)
 | j,q::l,.nil::r,hm,p,hp|j,q::l,.raw _::r,hm,p,hp|j,q::l,.ifc::r,hm,p,hp|j,q::l,.any::r,hm,p,hp|j,q::l,.obj _::r,hm,p,hp=>by
  obtain ⟨_,_,h4⟩:=hm
  exact zC6 (j+1) l r h4 p (by simpa [zAw] using hp)
 | j,q::l,.own rc::r,hm,p,hp=>by
  obtain ⟨_,h2,h4⟩:=hm
  simp only [zAw,List.mem_cons] at hp
  rcases hp with rfl|hp
  ·obtain ⟨c,sv⟩:=q
   simp only at h2 ⊢
   split at h2
   ·exact (zCW h2).2
   ·exact h2.2.2.whole
   ·exact h2.elim
  ·exact zC6 (j+1) l r h4 p hp
theorem zDT (hE:KnowOK C.P E) (h:Rel C γ s a w) {fn:Func} {o:Out} (hok:retOK E C.nl fn.results.toList o s) :
 ∃ v γ',(results fn a.tmps).run C.P w=.ok v w∧OutRep C γ' w o v:=by
 obtain ⟨hm,hnd,hleft,hnd2,hobjs⟩:=hok
 let L:=fn.results.toList.map (resSV E s)
 let pairs:=zAw 0 L o.res++o.left
 let ids:=pairs.map (·.1)
 have hcond:∀ (l:List ResultVar) (j:Nat) (res:List RV),zBh s C.nl ids j (l.map (resSV E s)) res→∀ r∈l,(resSV E s r).1:=by
  intro l
  induction l with
  | nil=>intro _ _ _ r hr; simp at hr
  | cons r0 l ih =>
   intro j res hres r hr
   cases res with
   | nil=>simp [zBh] at hres
   | cons rv res =>
    cases rv with
    | val sh x =>
     obtain ⟨h1,_,_,h4⟩:=hres
     rcases List.mem_cons.1 hr with rfl|hr
     ·exact h1
     ·exact ih (j+1) res h4 r hr
    | own rc =>
     obtain ⟨h1,_,h4⟩:=hres
     rcases List.mem_cons.1 hr with rfl|hr
     ·exact h1
     ·exact ih (j+1) res h4 r hr
    | nil =>
     obtain ⟨h1,_,h4⟩:=hres
     rcases List.mem_cons.1 hr with rfl|hr
     ·exact h1
     ·exact ih (j+1) res h4 r hr
    | raw u =>
     obtain ⟨h1,_,h4⟩:=hres
     rcases List.mem_cons.1 hr with rfl|hr
     ·exact h1
     ·exact ih (j+1) res h4 r hr
    | ifc =>
     obtain ⟨h1,_,h4⟩:=hres
     rcases List.mem_cons.1 hr with rfl|hr
     ·exact h1
     ·exact ih (j+1) res h4 r hr
    | any =>
     obtain ⟨h1,_,h4⟩:=hres
     rcases List.mem_cons.1 hr with rfl|hr
     ·exact h1
     ·exact ih (j+1) res h4 r hr
    | obj o =>
     obtain ⟨h1,_,h4⟩:=hres
     rcases List.mem_cons.1 hr with rfl|hr
     ·exact h1
     ·exact ih (j+1) res h4 r hr
 have hc:=hcond fn.results.toList 0 o.res hm
 let rd:ResultVar→Sem Value:=fun
  | .tmp t=>pure (a.tmps.getD t undef)
  | .cell x t=>do loadVar t (←asAddr (a.tmps.getD x undef))
 have hrd:∀ r∈fn.results.toList,∃ v,(rd r).run C.P w=.ok v w∧svRep C γ w (resSV E s r).2 v:=by
  intro r hr
  obtain ⟨v,h1,h2⟩:=zMX hE h r (hc r hr)
  refine ⟨v,?_,h2⟩
  cases r<;>exact h1
 let val:ResultVar→Value:=fun r=>match (rd r).run C.P w with
  | .ok v _=>v
  | .halt _ _=>undef
 have hval:∀ r∈fn.results.toList,(rd r).run C.P w=.ok (val r) w∧svRep C γ w (resSV E s r).2 (val r):=by
  intro r hr
  obtain ⟨v,h1,h2⟩:=hrd r hr
  have:val r=v:=by show (match (rd r).run C.P w with|.ok v _=>v|.halt _ _=>undef)=v; rw [h1]
  rw [this]
  exact ⟨h1,h2⟩
 have hmap:=zHT fn.results (f:=rd) (g:=val) (P:=C.P) (w:=w) (fun r hr=>(hval r hr).1)
 have hres:(results fn a.tmps).run C.P w=.ok (zHi (fn.results.toList.map val)) w:=by
  have e0:results fn a.tmps=(do let vs ←fn.results.mapM rd; pure (if h:vs.size=1 then vs[0] else .tuple vs):Sem Value):=rfl
  rw [e0,Sem.run_bind,hmap]
  simp only [Result.andThen_ok,Sem.run_pure,Result.ok.injEq,and_true]
  have e1:fn.results.map val=(fn.results.toList.map val).toArray:=by rw [←Array.toList_map,Array.toArray_toList]
  rw [e1]
  generalize fn.results.toList.map val=l
  match l with
  | []=>rfl
  | [x]=>rfl
  | x::y::l=>simp [zHi]
 let t:AS:=⟨fun _=>.one .any,fun q=>lk none (pairs.map fun p=>(p.1,some p.2)) q,fun b=>if (zAz L o.res++o.objs.map (·.1)).elem b then s.boxes b else none⟩
 have hob:∀ q∈zAz L o.res++o.objs.map (·.1),∃ y:Ob,s.boxes q=some (y.sv q):=by
  intro q hq
  rcases List.mem_append.1 hq with hq|hq
  ·exact zDq 0 L o.res hm q hq
  ·obtain ⟨p,hp,rfl⟩:=List.mem_map.1 hq
   exact ⟨p.2,(hobjs p hp).1⟩
 have hpair:∀ p∈pairs,s.roots p.1=some p.2∨(s.roots p.1=none∧C.nl≤p.1∧emptyRC p.2):=by
  intro p hp
  rcases List.mem_append.1 hp with hp|hp
  ·exact zDt 0 L o.res hm p hp
  ·exact .inl (zCW (hleft p hp).1).1
 have hwhl:∀ p∈pairs,whole p.2=true:=by
  intro p hp
  rcases List.mem_append.1 hp with hp|hp
  ·exact zC6 0 L o.res hm p hp
  ·exact (zCW (hleft p hp).1).2
 have htp:∀ p∈pairs,t.roots p.1=some p.2:=fun p hp=>zIP pairs (fun x:RC=>x) p.1 p.2 hnd hp
 have hinv:∀ q rc,t.roots q=some rc→(q,rc)∈pairs:=by
  intro q rc hq
  obtain ⟨v,h1,h2⟩:=zEn (g:=fun x:RC=>x) hq
  rw [h2]; exact h1
 have hweak:Weak C.nl s t:=by
  refine ⟨fun i=>?_,fun b sv hb=>?_,fun r rc hr=>hpair _ (hinv r rc hr)⟩
  rotate_left
  ·simp only [t] at hb
   split at hb
   ·rename_i hm2
    obtain ⟨y,hy⟩:=hob b (by simpa using hm2)
    rw [hy] at hb
    simp only [Option.some.injEq] at hb
    subst hb
    exact ⟨_,hy,zPm _ _ _ _⟩
   ·cases hb
  simp only [t]
  unfold zFy
  split
  ·rename_i e
   simp only [SV.one.injEq] at e
   exact .inl e.symm
  ·rename_i e; cases e
  ·exact .inl rfl
 have hrel:=hweak.rel h
 have hbxs:∀ q∈zAz L o.res++o.objs.map (·.1),∀ y:Ob,s.boxes q=some (y.sv q)→bxRep C (zAI γ s t) w q (y.sv q):=fun q hq y hy=>hrel.boxes q _ (by
  show (if _ then _ else _)=_
  rw [if_pos (by simpa using hq)]; exact hy)
 refine ⟨_,zAI γ s t,hres,⟨(zAw 0 L o.res).map (·.1),zAz L o.res,_,rfl,?_,by rw [←List.map_append]; exact hnd,hnd2⟩,fun p hp=>⟨⟨hrel.roots p.1 p.2 (htp p (List.mem_append_right _ hp)),hwhl p (List.mem_append_right _ hp)⟩,(hrel.lent p.1 (hleft p hp).2).1⟩,fun p hp=>⟨hbxs p.1 (List.mem_append_right _ (List.mem_map.2 ⟨p,hp,rfl⟩)) p.2 (hobjs p hp).1,(hrel.lent p.1 (hobjs p hp).2).2⟩,hrel.ownlt⟩
 refine zBP (ids:=ids) (nl:=C.nl) h (fun q hq=>?_) (fun q rc hq=>⟨hrel.roots q rc hq,hwhl _ (hinv q rc hq)⟩) 0 L _ o.res hm (fun p hp=>htp p (List.mem_append_left _ hp)) (fun q hq=>hbxs q (List.mem_append_left _ hq)) (by simp [L]) (fun i p v h1 h2=>?_)
 ·cases hq':t.roots q with
  | none=>rfl
  | some rc=>exact absurd (List.mem_map.2 ⟨_,hinv q rc hq',rfl⟩) hq
 ·simp only [L,List.getElem?_map,Option.map_eq_some_iff] at h1 h2
  obtain ⟨r,e1,rfl⟩:=h1
  obtain ⟨r',e2,rfl⟩:=h2
  rw [e1] at e2
  simp only [Option.some.injEq] at e2
  subst e2
  exact (hval r (List.mem_of_getElem? e1)).2
end
def Sh.fits:(s:Sh)→s.T→Prop
 | .sl a,xs=>List.length xs≤maxLen∧∀ i,(h:i<List.length xs)→a.fits (xs[i]'h)
 | .prod a b,x=>a.fits x.1∧b.fits x.2
 | _,_=>True
theorem zEr {w:World} {Z:Nat→Prop}:∀ (s:Sh) (x:s.T) (cs:List Value),pers w Z s x cs→s.fits x
 | .int,_,_,_|.bool,_,_,_|.str,_,_,_|.byte,_,_,_|.unit,_,_,_|.err _,_,_,_|.uint,_,_,_|.smap,_,_,_=>trivial
 | .prod a b,x,cs,h=>by
  obtain ⟨c,d,_,h1,h2⟩:=h
  exact ⟨zEr a _ _ h1,zEr b _ _ h2⟩
 | .sl s,xs,cs,h=>by
  obtain ⟨a,cap,_,hc,hm,hall⟩:=h
  refine ⟨Nat.le_trans hc hm,fun i hi=>?_⟩
  obtain ⟨b,off,c,_,_,_,hp,_⟩:=hall i hi
  exact zEr s _ c hp
def zCB:(as_:List AD)→TupA as_→Prop
 | [],_=>True
 | .obj _::as_,x=>zCB as_ x.2
 | .sdat s::as_,x=>s.fits x.1∧zCB as_ x.2
 | .dat s::as_,x=>s.fits x.1∧zCB as_ x.2
 | .ptr s::as_,x=>s.fits x.1∧zCB as_ x.2
 | .fnc _ _::as_,x=>zCB as_ x.2
 | .pfn _ _::as_,x=>zCB as_ x.2
 | .nilp::as_,x=>zCB as_ x.2
 | .lend::as_,x=>zCB as_ x.2
theorem zBF {C:Ctx} {γ:Gam} {w:World}:∀ (k:Nat) (as_:List AD) (x:TupA as_) (vs:List Value),zAp C γ w (zAP k as_ x) vs→zCB as_ x
 | _,[],_,_,_=>trivial
 | k,.obj _::as_,x,vs,h=>by
  obtain ⟨v,vs',_,_,h2⟩:=h
  exact zBF (k+1) as_ x.2 vs' h2
 | k,.sdat s::as_,x,vs,h=>by
  obtain ⟨v,vs',_,⟨cs,h1,_⟩,h2⟩:=h
  exact ⟨zEr s _ cs h1,zBF k as_ x.2 vs' h2⟩
 | k,.dat s::as_,x,vs,h=>by
  obtain ⟨v,vs',_,⟨cs,h1,_⟩,h2⟩:=h
  exact ⟨zEr s _ cs h1,zBF k as_ x.2 vs' h2⟩
 | k,.ptr s::as_,x,vs,h=>by
  obtain ⟨v,vs',_,⟨b,off,cs,_,_,_,h1,_⟩,h2⟩:=h
  exact ⟨zEr s _ cs h1,zBF k as_ x.2 vs' h2⟩
 | k,.fnc _ _::as_,x,vs,h=>by
  obtain ⟨v,vs',_,_,h2⟩:=h
  exact zBF k as_ x.2 vs' h2
 | k,.pfn _ _::as_,x,vs,h=>by
  obtain ⟨v,vs',_,_,h2⟩:=h
  exact zBF k as_ x.2 vs' h2
 | k,.nilp::as_,x,vs,h=>by
  obtain ⟨v,vs',_,_,h2⟩:=h
  exact zBF k as_ x.2 vs' h2
 | k,.lend::as_,x,vs,h=>by
  obtain ⟨v,vs',_,_,h2⟩:=h
  exact zBF (k+1) as_ x.2 vs' h2
theorem FnSpec.of_tri {P:Program} {E:Know} (hE:KnowOK P E) {f:FuncId} {fn:Func} {c:Con} {code:Code} (hf:P.funcs[f]?=some fn) (hname:(fn.name == "runtime.NumGoroutine")=false) (hb:fn.body=some code)
 (hn:∀ x:TupA c.as_,(zAP 0 c.as_ x).length≤fn.ntmps)
 (h:∀ (C:Ctx) (x:TupA c.as_),KnowOK C.P E→C.nl=lends c.as_→zCB c.as_ x→c.pre x→tri C fn.ntmps code (retQ E (lends c.as_) fn.results.toList (c.post x)) (entry c.as_ x)):FnSpec P f c:=by
 refine ⟨⟨fn,hf,hname,by rw [hb]; rfl⟩,fun C γ x vs hpre hen=>?_⟩
 obtain rfl:=hen.P
 refine calls_of_wp hf hb ?_
 have hlen:=zA0 _ _ hen.args
 have hle:=hn x
 have hr:=zEi hen (fn.ntmps - vs.length)
 refine wp_mono ((h C x hE hen.nl (zBF _ _ _ _ hen.args) hpre).run γ _ _ (by simpa using hr) (by simp; omega)) ?_
 rintro e a' w' ⟨s',γ',h1,h2,h3⟩
 rw [←hen.nl] at h3
 cases e with
 | normal =>
  obtain ⟨v,γ2,k1,k2⟩:=zDT hE h1 (fn:=fn) h3
  exact ⟨h1.defers.1.trans hen.ds.1,v,k1,v,γ2,rfl,k2,h1.keep⟩
 | ret =>
  obtain ⟨v,γ2,k1,k2⟩:=zDT hE h1 (fn:=fn) h3
  exact ⟨h1.defers.1.trans hen.ds.1,v,k1,v,γ2,rfl,k2,h1.keep⟩
 | exit id=>exact h3.elim
 | goto l=>exact h3.elim
 | panic c=>exact h3.elim
 | outgrown=>exact h3.elim
def joinP:(caps:List Sh)→TupT caps→TupA (caps.map AD.ptr)
 | [],_=>()
 | _::cs,y=>(y.1,joinP cs y.2)
def joinA (caps:List Sh) (y:TupT caps):(as_:List Sh)→TupT as_→TupA (as_.map AD.dat++caps.map AD.ptr)
 | [],_=>joinP caps y
 | _::as_,x=>(x.1,joinA caps y as_ x.2)
def leftA (caps:List Sh):(as_:List Sh)→TupA (as_.map AD.dat++caps.map AD.ptr)→TupT as_
 | [],_=>()
 | _::as_,z=>(z.1,leftA caps as_ z.2)
def zP7:(caps:List Sh)→TupA (caps.map AD.ptr)→TupT caps
 | [],_=>()
 | _::cs,z=>(z.1,zP7 cs z.2)
def zI7 (caps:List Sh):(as_:List Sh)→TupA (as_.map AD.dat++caps.map AD.ptr)→TupT caps
 | [],z=>zP7 caps z
 | _::as_,z=>zI7 caps as_ z.2
def Clo.con (c:Clo):Con :=
 ⟨c.as_.map AD.dat++c.caps.map AD.ptr,fun z=>c.q (zI7 c.caps c.as_ z) (leftA c.caps c.as_ z),fun z=>{res:=[.val c.r (c.p (zI7 c.caps c.as_ z) (leftA c.caps c.as_ z))]}⟩
theorem zI8:∀ (caps:List Sh) (y:TupT caps),zP7 caps (joinP caps y)=y
 | [],_=>rfl
 | _::cs,y=>Prod.ext rfl (zI8 cs y.2)
theorem zHe (caps:List Sh) (y:TupT caps):∀ (as_:List Sh) (x:TupT as_),leftA caps as_ (joinA caps y as_ x)=x
 | [],_=>rfl
 | _::as_,x=>Prod.ext rfl (zHe caps y as_ x.2)
theorem zGq (caps:List Sh) (y:TupT caps):∀ (as_:List Sh) (x:TupT as_),zI7 caps as_ (joinA caps y as_ x)=y
 | [],_=>zI8 caps y
 | _::as_,x=>zGq caps y as_ x.2
theorem zIK:∀ (caps:List Sh),lends (caps.map AD.ptr)=0
 | []=>rfl
 | _::cs=>zIK cs
theorem zMt (caps:List Sh):∀ (as_:List Sh),lends (as_.map AD.dat++caps.map AD.ptr)=0
 | []=>zIK caps
 | _::as_=>zMt caps as_
theorem zJa:∀ (caps:List Sh) (z:TupA (caps.map AD.ptr)),zAC 0 (caps.map AD.ptr) z=[]
 | [],_=>rfl
 | _::cs,z=>zJa cs z.2
theorem zMZ (caps:List Sh):∀ (as_:List Sh) (z:TupA (as_.map AD.dat++caps.map AD.ptr)),zAC 0 (as_.map AD.dat++caps.map AD.ptr) z=[]
 | [],z=>zJa caps z
 | _::as_,z=>zMZ caps as_ z.2
theorem zOq:∀ (caps:List Sh) (z:TupA (caps.map AD.ptr)),zAQ 0 (caps.map AD.ptr) z=[]
 | [],_=>rfl
 | _::cs,z=>zOq cs z.2
theorem zTY (caps:List Sh):∀ (as_:List Sh) (z:TupA (as_.map AD.dat++caps.map AD.ptr)),zAQ 0 (as_.map AD.dat++caps.map AD.ptr) z=[]
 | [],z=>zOq caps z
 | _::as_,z=>zTY caps as_ z.2
theorem zKO {C:Ctx} {w:World} {Z:Nat→Prop} (hz:∀ b,Z b→C.zn gam0 b):∀ (caps:List Sh) (y:TupT caps) (ps:List Value),zBC w Z caps y ps→zAp C gam0 w (zAP 0 (caps.map AD.ptr) (joinP caps y)) ps
 | [],_,_,h=>h
 | _::cs,y,ps,h=>by
  obtain ⟨v,ps',rfl,⟨b,off,c,e1,e2,e3,e4,e5⟩,h4⟩:=h
  exact ⟨v,ps',rfl,⟨b,off,c,e1,hz b e2,e3,zAx (Nat.le_refl _) (fun b _ hb=>⟨hz b hb,rfl⟩) _ _ c e4,e5⟩,zKO hz cs y.2 ps' h4⟩
theorem zPh {C:Ctx} {w:World} {Z:Nat→Prop} (hz:∀ b,Z b→C.zn gam0 b) (caps:List Sh) (y:TupT caps) (ps:List Value) (hp:zBC w Z caps y ps):∀ (as_:List Sh) (x:TupT as_) (vs:List Value),zDj w Z as_ x vs →
 zAp C gam0 w (zAP 0 (as_.map AD.dat++caps.map AD.ptr) (joinA caps y as_ x)) (vs++ps)
 | [],_,vs,h1=>by
  simp only [zDj] at h1
  subst h1
  exact zKO hz caps y ps hp
 | _::as_,x,vs,h1=>by
  obtain ⟨v,vs',rfl,h3,h4⟩:=h1
  exact ⟨v,vs'++ps,rfl,zAq hz h3,zPh hz caps y ps hp as_ x.2 vs' h4⟩
theorem CloSpec.of {P:Program} {f:FuncId} {c:Clo} (h:FnSpec P f c.con):CloSpec P f c:=by
 refine ⟨h.callable,fun w Z y x ps vs hgd hq hp ha=>?_⟩
 let C:Ctx:=⟨P,fun _=>False,w,Z,0,fun _=>undef,fun _=>0,[]⟩
 have hrun:=h.run C gam0 (joinA c.caps y c.as_ x) (vs++ps) (by
  show c.q (zI7 c.caps c.as_ (joinA c.caps y c.as_ x)) (leftA c.caps c.as_ (joinA c.caps y c.as_ x))
  rw [zHe,zGq]
  exact hq) ⟨rfl,(zMt c.caps c.as_).symm,⟨rfl,hgd,fun k hk=>hk.elim⟩,fun r hr=>absurd hr (Nat.not_lt_zero r),fun k l hk=>by simp [gam0] at hk,zPh (C:=C) (fun b hb=>⟨.inl hb,rfl⟩) c.caps y ps hp c.as_ x vs ha,fun p hp=>by
   have:zAC 0 c.con.as_ (joinA c.caps y c.as_ x)=[]:=zMZ c.caps c.as_ _
   rw [this] at hp
   simp at hp,fun p hp=>by
   have:zAQ 0 c.con.as_ (joinA c.caps y c.as_ x)=[]:=zTY c.caps c.as_ _
   rw [this] at hp
   simp at hp⟩
 refine hrun.mono fun e w' hx=>?_
 obtain ⟨v,γ',rfl,⟨⟨ids,bids,us,rfl,hres,_⟩,_,_⟩,hk⟩:=hx
 have hres':zCN C γ' w' [.val c.r (c.p (zI7 c.caps c.as_ (joinA c.caps y c.as_ x)) (leftA c.caps c.as_ (joinA c.caps y c.as_ x)))] ids bids us:=hres
 rw [zHe,zGq] at hres'
 obtain ⟨u,us',rfl,hu,_,_,h2⟩:=hres'
 subst h2
 refine ⟨u,rfl,zAq (fun b hb=>?_) hu,hk⟩
 rcases hb.1 with h1|h1|h1
 ·exact .inl h1
 ·exact .inr h1
 ·exact h1.elim
def Rec.joinQ (c:Rec) (y2:TupT c.post) (f:(TupT c.as_→Prop)×(TupT c.as_→c.r.T)):(ante:List Sh)→TupT ante→TupA (ante.map AD.ptr++AD.pfn c.as_ c.r::c.post.map AD.ptr)
 | [],_=>(f,joinP c.post y2)
 | _::cs,y=>(y.1,Rec.joinQ c y2 f cs y.2)
def Rec.joinA (c:Rec) (y1:TupT c.ante) (y2:TupT c.post) (f:(TupT c.as_→Prop)×(TupT c.as_→c.r.T)):(as_:List Sh)→TupT as_→TupA (as_.map AD.dat++(c.ante.map AD.ptr++AD.pfn c.as_ c.r::c.post.map AD.ptr))
 | [],_=>Rec.joinQ c y2 f c.ante y1
 | _::as_,x=>(x.1,Rec.joinA c y1 y2 f as_ x.2)
def Rec.ads (c:Rec):List AD:=c.as_.map AD.dat++(c.ante.map AD.ptr++AD.pfn c.as_ c.r::c.post.map AD.ptr)
theorem Rec.lendsQ (c:Rec):∀ (ante:List Sh),lends (ante.map AD.ptr++AD.pfn c.as_ c.r::c.post.map AD.ptr)=0
 | []=>zIK c.post
 | _::cs=>Rec.lendsQ c cs
theorem Rec.lendsA (c:Rec):∀ (as_:List Sh),lends (as_.map AD.dat++(c.ante.map AD.ptr++AD.pfn c.as_ c.r::c.post.map AD.ptr))=0
 | []=>Rec.lendsQ c c.ante
 | _::as_=>Rec.lendsA c as_
theorem Rec.rootsQ (c:Rec):∀ (ante:List Sh) (z:TupA (ante.map AD.ptr++AD.pfn c.as_ c.r::c.post.map AD.ptr)),zAC 0 (ante.map AD.ptr++AD.pfn c.as_ c.r::c.post.map AD.ptr) z=[]
 | [],z=>zJa c.post z.2
 | _::cs,z=>Rec.rootsQ c cs z.2
theorem Rec.obsQ (c:Rec):∀ (ante:List Sh) (z:TupA (ante.map AD.ptr++AD.pfn c.as_ c.r::c.post.map AD.ptr)),zAQ 0 (ante.map AD.ptr++AD.pfn c.as_ c.r::c.post.map AD.ptr) z=[]
 | [],z=>zOq c.post z.2
 | _::cs,z=>Rec.obsQ c cs z.2
theorem Rec.obsA (c:Rec):∀ (as_:List Sh) (z:TupA (as_.map AD.dat++(c.ante.map AD.ptr++AD.pfn c.as_ c.r::c.post.map AD.ptr))),zAQ 0 (as_.map AD.dat++(c.ante.map AD.ptr++AD.pfn c.as_ c.r::c.post.map AD.ptr)) z=[]
 | [],z=>Rec.obsQ c c.ante z
 | _::as_,z=>Rec.obsA c as_ z.2
theorem Rec.rootsA (c:Rec):∀ (as_:List Sh) (z:TupA (as_.map AD.dat++(c.ante.map AD.ptr++AD.pfn c.as_ c.r::c.post.map AD.ptr))),zAC 0 (as_.map AD.dat++(c.ante.map AD.ptr++AD.pfn c.as_ c.r::c.post.map AD.ptr)) z=[]
 | [],z=>Rec.rootsQ c c.ante z
 | _::as_,z=>Rec.rootsA c as_ z.2
section
variable {C:Ctx} {w:World} {Z:Nat→Prop} (hz:∀ b,Z b→C.zn gam0 b) (c:Rec) {y2:TupT c.post} {f:(TupT c.as_→Prop)×(TupT c.as_→c.r.T)} {ps2:List Value} {R:Value}
include hz
theorem Rec.argsQ (h2:zBC w Z c.post y2 ps2) (hR:bvRep C gam0 w (.pfn c.as_ c.r f.1 f.2) R):∀ (ante:List Sh) (y1:TupT ante) (ps1:List Value),zBC w Z ante y1 ps1 →
 zAp C gam0 w (zAP 0 (ante.map AD.ptr++AD.pfn c.as_ c.r::c.post.map AD.ptr) (Rec.joinQ c y2 f ante y1)) (ps1++R::ps2)
 | [],_,ps1,h=>by
  simp only [zBC] at h
  subst h
  exact ⟨R,ps2,rfl,hR,zKO hz c.post y2 ps2 h2⟩
 | _::cs,y1,ps1,h=>by
  obtain ⟨v,ps',rfl,⟨b,off,d,e1,e2,e3,e4,e5⟩,h4⟩:=h
  exact ⟨v,ps'++R::ps2,rfl,⟨b,off,d,e1,hz b e2,e3,zAx (Nat.le_refl _) (fun b _ hb=>⟨hz b hb,rfl⟩) _ _ d e4,e5⟩,Rec.argsQ h2 hR cs y1.2 ps' h4⟩
theorem Rec.argsA (h2:zBC w Z c.post y2 ps2) (hR:bvRep C gam0 w (.pfn c.as_ c.r f.1 f.2) R) {y1:TupT c.ante} {ps1:List Value} (h1:zBC w Z c.ante y1 ps1):∀ (as_:List Sh) (x:TupT as_) (vs:List Value),zDj w Z as_ x vs →
 zAp C gam0 w (zAP 0 (as_.map AD.dat++(c.ante.map AD.ptr++AD.pfn c.as_ c.r::c.post.map AD.ptr)) (Rec.joinA c y1 y2 f as_ x)) (vs++(ps1++R::ps2))
 | [],_,vs,h=>by
  simp only [zDj] at h
  subst h
  exact Rec.argsQ hz c h2 hR c.ante y1 ps1 h1
 | _::as_,x,vs,h=>by
  obtain ⟨v,vs',rfl,h3,h4⟩:=h
  exact ⟨v,vs'++(ps1++R::ps2),rfl,zAq hz h3,Rec.argsA h2 hR h1 as_ x.2 vs' h4⟩
end
theorem RecSpec.of {P:Program} {f:FuncId} {c:Rec} (hflat:c.r.flat=true) (μ:TupT c.ante→TupT c.post→TupT c.as_→Nat) {pre:TupA c.ads→Prop} {post:TupA c.ads→Out} (h:FnSpec P f ⟨c.ads,pre,post⟩)
 (hpre:∀ y1 y2 x q,c.q y1 y2 x→(∀ x',c.q y1 y2 x'→μ y1 y2 x'<μ y1 y2 x→q x')→pre (Rec.joinA c y1 y2 (q,c.p y1 y2) c.as_ x))
 (hpost:∀ y1 y2 x q,post (Rec.joinA c y1 y2 (q,c.p y1 y2) c.as_ x)={res:=[.val c.r (c.p y1 y2 x)]}):RecSpec P f c:=by
 refine ⟨h.callable,hflat,?_⟩
 have key:∀ (n:Nat) (w:World) (Z:Nat→Prop) (y1:TupT c.ante) (y2:TupT c.post) (x:TupT c.as_) (ps1 ps2 vs:List Value) (b off:Nat),μ y1 y2 x=n→Gd P w→c.q y1 y2 x→zBC w (fun _=>True) c.ante y1 ps1→zBC w (fun _=>True) c.post y2 ps2→zDj w Z c.as_ x vs →
  b<w.heap.size→w.cell? ⟨b,off,none⟩=some (.func (.func f) #[] (ps1++.pointer (some ⟨b,off,none⟩)::ps2).toArray) →
  Calls P f (vs++(ps1++.pointer (some ⟨b,off,none⟩)::ps2)).toArray w (fun e w'=>∃ u,e=.returned u∧vrep w' (fun _=>True) c.r (c.p y1 y2 x) u∧Keep (fun _=>False) w w'):=by
  intro n
  induction n using Nat.strongRecOn with
  | _ n ih =>
   intro w Z y1 y2 x ps1 ps2 vs b off hn hgd hq h1 h2 ha hb hcell
   let C:Ctx:=⟨P,fun _=>False,w,fun _=>True,0,fun _=>undef,fun _=>0,[]⟩
   let q:TupT c.as_→Prop:=fun x'=>c.q y1 y2 x'∧μ y1 y2 x'<n
   have hz:∀ b,(fun _:Nat=>True) b→C.zn gam0 b:=fun b _=>⟨.inl trivial,rfl⟩
   have hR:bvRep C gam0 w (.pfn c.as_ c.r q (c.p y1 y2)) (.pointer (some ⟨b,off,none⟩)):=by
    refine ⟨b,off,_,rfl,hz b trivial,hb,hcell,f,#[],_,rfl,h.callable,fun w1 Z1 x' vs' hk hgd' hq' ha'=>?_⟩
    have hcell1:w1.cell? ⟨b,off,none⟩=some (.func (.func f) #[] (ps1++.pointer (some ⟨b,off,none⟩)::ps2).toArray):=by
     rw [World.cell?_of_block (w:=w) (w':=w1) (a:=⟨b,off,none⟩) (hk.block b hb (fun h=>h))]
     exact hcell
    have hk':Keep (fun _=>False) w w1:=hk
    have hc:=ih (μ y1 y2 x') hq'.2 w1 Z1 y1 y2 x' ps1 ps2 vs' b off rfl hgd' hq'.1 (zD4 hk' _ _ _ h1) (zD4 hk' _ _ _ h2) ha' (Nat.lt_of_lt_of_le hb hk'.size) hcell1
    have e:(vs'++(ps1++.pointer (some ⟨b,off,none⟩)::ps2)).toArray=#[]++vs'.toArray++(ps1++.pointer (some ⟨b,off,none⟩)::ps2).toArray:=by simp
    rw [e] at hc
    refine hc.mono fun e w2 hx=>?_
    obtain ⟨u,k1,k2,k3⟩:=hx
    exact ⟨u,k1,zCq hflat k2,k3⟩
   have hrun:=h.run C gam0 (Rec.joinA c y1 y2 (q,c.p y1 y2) c.as_ x) (vs++(ps1++.pointer (some ⟨b,off,none⟩)::ps2)) (hpre y1 y2 x q hq fun x' k1 k2=>⟨k1,by omega⟩)
    ⟨rfl,(Rec.lendsA c c.as_).symm,⟨rfl,hgd,fun k hk=>hk.elim⟩,fun r hr=>absurd hr (Nat.not_lt_zero r),fun k l hk=>by simp [gam0] at hk,Rec.argsA hz c h2 hR h1 c.as_ x vs (zCs (fun _ _=>trivial) _ _ _ ha),fun p hp=>by
     have:zAC 0 c.ads (Rec.joinA c y1 y2 (q,c.p y1 y2) c.as_ x)=[]:=Rec.rootsA c c.as_ _
     rw [this] at hp
     simp at hp,fun p hp=>by
     have:zAQ 0 c.ads (Rec.joinA c y1 y2 (q,c.p y1 y2) c.as_ x)=[]:=Rec.obsA c c.as_ _
     rw [this] at hp
     simp at hp⟩
   refine hrun.mono fun e w' hx=>?_
   obtain ⟨v,γ',rfl,⟨⟨ids,bids,us,rfl,hres,_⟩,_,_⟩,hk⟩:=hx
   have hres':zCN C γ' w' (post (Rec.joinA c y1 y2 (q,c.p y1 y2) c.as_ x)).res ids bids us:=hres
   rw [hpost] at hres'
   obtain ⟨u,us',rfl,hu,_,_,h2⟩:=hres'
   subst h2
   exact ⟨u,rfl,zCq hflat hu,hk⟩
 intro w Z y1 y2 x ps1 ps2 vs b off hgd hq h1 h2 ha hb hcell
 exact key _ w Z y1 y2 x ps1 ps2 vs b off rfl hgd hq h1 h2 ha hb hcell
end Go.VS
namespace Go.VS
open Go.RowKit
structure Tab where
 sh:List (Nat×Sh)
 el:List (Nat×Nat)
 plain:List Nat
 fld:List (Nat×List (Nat×Nat))
 ones:List (Nat×Nat)
 fns:List Nat
 ptrs:List Nat:=[]
 ifs:List Nat:=[]
 concs:List Nat:=[]
 maps:List Nat:=[]
 obs:List (Nat×List BV×List (Nat×Nat)):=[]
def Tab.lang (T:Tab):Lang where
 sh t:=lk none (T.sh.map fun p=>(p.1,some p.2)) t
 el t:=lk 0 T.el t
 plain t:=T.plain.elem t
 fld t f:=match lk none (T.fld.map fun p=>(p.1,some p.2)) t with
  | some l=>match l[f]? with
   | some q=>some (l.length,q.1)
   | none=>none
  | none=>none
 ones t:=lk none (T.ones.map fun p=>(p.1,some p.2)) t
 fplain t f:=match lk none (T.fld.map fun p=>(p.1,some p.2)) t with
  | some l=>match l[f]? with
   | some q=>T.plain.elem q.2
   | none=>false
  | none=>false
 fnT t:=T.fns.elem t
 ptrT t:=T.ptrs.elem t
 ifT t:=T.ifs.elem t
 conc t:=T.concs.elem t
 mp t:=T.maps.elem t
 ob t:=lk none (T.obs.map fun p=>(p.1,some p.2)) t
 frz _:=false
theorem zVV (T:Tab) (d:Nat):T.lang.frz d=false:=rfl
def tailS:Nat→Nat→Sh→Option Sh
 | 1,0,s=>some s
 | _+2,0,.prod a _=>some a
 | n+2,f+1,.prod _ b=>tailS (n+1) f b
 | _,_,_=>none
def oneS:Nat→Sh→Option Sh
 | 0,.prod a .unit=>some a
 | _,_=>none
def zS9 (n f:Nat) (s:Sh):Option Sh:=match n with
 | 1=>oneS f s
 | n=>tailS n f s
theorem zOY:∀ (n f:Nat) (s:Sh) (x:s.T) (s':Sh) (y:s'.T),tailF n f s x=some ⟨s',y⟩→tailS n f s=some s'
 | 0,_,_,_,_,_,h=>by simp [tailF] at h
 | 1,0,s,x,s',y,h=>by
  simp only [tailF,Option.some.injEq,Sigma.mk.injEq] at h
  simp only [tailS,h.1]
 | 1,_+1,_,_,_,_,h=>by simp [tailF] at h
 | _+2,0,.prod a b,x,s',y,h=>by
  simp only [tailF,Option.some.injEq,Sigma.mk.injEq] at h
  simp only [tailS,h.1]
 | n+2,f+1,.prod a b,x,s',y,h=>by
  simp only [tailF] at h
  simp only [tailS]
  exact zOY (n+1) f b x.2 s' y h
 | _+2,_,.int,_,_,_,h|_+2,_,.bool,_,_,_,h|_+2,_,.str,_,_,_,h|_+2,_,.byte,_,_,_,h|_+2,_,.unit,_,_,_,h|_+2,_,.sl _,_,_,_,h=>by simp [tailF] at h
theorem zVz {n f:Nat} {s:Sh} {x:s.T} {s':Sh} {y:s'.T} (h:zGz n f s x=some ⟨s',y⟩):zS9 n f s=some s':=by
 match n,h with
 | 0,h=>exact zOY 0 f s x s' y h
 | 1,h =>
  simp only [zGz] at h
  simp only [zS9]
  unfold oneF at h
  split at h
  ·simp only [Option.some.injEq,Sigma.mk.injEq] at h
   simp only [oneS,h.1]
  ·simp at h
 | n+2,h=>exact zOY (n+2) f s x s' y h
def zXc (G:Lang) (t:Nat):Sh→TypeDesc
 | .int=>.int .i64
 | .byte=>.int .u8
 | .bool=>.bool
 | .str=>.string
 | .uint=>.int .u64
 | .sl _=>.slice (G.el t)
 | _=>.bool
def Sh.bare:Sh→Bool
 | .err _=>true
 | s=>s.agg
structure TabOK (P:Program) (T:Tab):Prop where
 info:T.sh.map (fun p=>(P.info? p.1).map fun i=>(i.size,decide (i.bytes≤1024),i.zero.map fun z=>z.cells.toList))=T.sh.map fun p=>some (p.2.size,true,some (p.2.cells p.2.zero))
 under:T.sh.map (fun p=>(P.underlying p.1).map fun d=>(aggB d,if p.2.bare then none else some d))=T.sh.map fun p=>some (p.2.agg,if p.2.bare then none else some (zXc T.lang p.1 p.2))
 slB:T.sh.all (fun p=>match p.2 with
  | .sl a=>decide (T.lang.sh (T.lang.el p.1)=some a) && decide (0<a.size) && decide (a.size≤1024)
  | _=>true)=true
 plain:T.plain.map (fun t=>((P.underlying t).map aggB,(P.info? t).map fun i=>i.size))=T.plain.map fun _=>(some false,some 1)
 fldE:T.fld.map (fun p=>match P.underlying p.1 with
  | some (.struct fs)=>fs.toList.map fun x=>(x.offset,x.type,(P.info? x.type).map fun i=>i.size != 0)
  | _=>[])=T.fld.map fun p=>p.2.map fun q=>(q.1,q.2,some true)
 fldS:T.fld.all (fun p=>match T.lang.sh p.1 with
  | some s=>s.agg && (List.range p.2.length).all fun f=>decide (zJT p.2.length f s=(p.2[f]?).map (·.1)) && (match zS9 p.2.length f s with
   | some s'=>decide ((p.2[f]?).bind (fun q=>T.lang.sh q.2)=some s')
   | none=>true)
  | none=>true)=true
 ones:T.ones.map (fun p=>match P.underlying p.1,P.info? p.1 with
  | some (.struct fs),some i=>match i.zero with
   | some (.agg z)=>some (i.size,z.size,fs.toList.mapM fun f=>(P.info? f.type).map fun i=>(f.offset,i.size))
   | _=>none
  | _,_=>none)=T.ones.map fun p=>some (p.2,p.2,some ((List.range p.2).map fun k=>(k,1)))
 pair:∀ t,T.lang.sh t=some (.prod .int .int)→∀ (w:World) (a b c d:Int) (x y:Operand),
  (do eqGuard .eql t x y (.agg #[.int .i64 a,.int .i64 b]) (.agg #[.int .i64 c,.int .i64 d]); binOp .eql t (.agg #[.int .i64 a,.int .i64 b]) (.agg #[.int .i64 c,.int .i64 d])).run P w=.ok (.bool (a == c && b == d)) w ∧
  (do eqGuard .neq t x y (.agg #[.int .i64 a,.int .i64 b]) (.agg #[.int .i64 c,.int .i64 d]); binOp .neq t (.agg #[.int .i64 a,.int .i64 b]) (.agg #[.int .i64 c,.int .i64 d])).run P w=.ok (.bool (!(a == c && b == d))) w
 mixed:P.follows .mixedOrders=true
 fns:T.fns.map (fun t=>(P.info? t).bind fun i=>i.zero)=T.fns.map fun _=>some .nilFunc
 ptrs:T.ptrs.map (fun t=>P.underlying t)=T.ptrs.map fun t=>some (.pointer (P.pointee t))
 ifs:T.ifs.map (fun t=>P.underlying t)=T.ifs.map fun t=>some (.interface (P.methodsAt t))
 concs:T.concs.map (fun t=>P.concrete t)=T.concs.map fun _=>true
 obs:T.obs.map (fun p=>match P.underlying p.1,P.info? p.1 with
  | some (.struct fs),some i=>match i.zero with
   | some (.agg z)=>some (z.toList.map zNy,(z.toList.all fun v=>v.oneCell'),decide (i.size=z.size),fs.toList.mapM fun f=>(P.info? f.type).map fun i=>(f.offset,i.size))
   | _=>none
  | _,_=>none)=T.obs.map fun p=>some (p.2.1,true,true,some p.2.2)
 maps:T.maps.map (fun t=>match P.underlying t with
  | some (.map k e)=>some (P.underlying k,(P.info? e).bind fun i=>i.zero)
  | _=>none)=T.maps.map fun _=>some (some .string,some (.agg #[.int .i64 0,.int .i64 0]))
 line:∀ t,T.lang.sh t=some (.prod .str .int)→∀ (w:World) (a:ByteArray) (b:Int) (c:ByteArray) (d:Int) (x y:Operand),
  (do eqGuard .eql t x y (.agg #[.string a,.int .i64 b]) (.agg #[.string c,.int .i64 d]); binOp .eql t (.agg #[.string a,.int .i64 b]) (.agg #[.string c,.int .i64 d])).run P w=.ok (.bool (decide (a=c) && b == d)) w ∧
  (do eqGuard .neq t x y (.agg #[.string a,.int .i64 b]) (.agg #[.string c,.int .i64 d]); binOp .neq t (.agg #[.string a,.int .i64 b]) (.agg #[.string c,.int .i64 d])).run P w=.ok (.bool (!(decide (a=c) && b == d))) w
section
variable {P:Program} {T:Tab}
theorem zA5 {α β:Type} {f g:α→β}:∀ {l:List α},l.map f=l.map g→∀ x∈l,f x=g x
 | [],_,x,hx=>by simp at hx
 | a::l,h,x,hx=>by
  simp only [List.map_cons,List.cons.injEq] at h
  rcases List.mem_cons.1 hx with rfl|hx
  ·exact h.1
  ·exact zA5 h.2 x hx
theorem zGU {t:Nat} {s:Sh} (h:T.lang.sh t=some s):(t,s)∈T.sh:=by
 obtain ⟨v,h1,h2⟩:=zEn (g:=fun x:Sh=>x) h
 rw [h2]; exact h1
theorem zK6 {t f n off:Nat} (h:T.lang.fld t f=some (n,off)):∃ l q,(t,l)∈T.fld∧l[f]?=some q∧n=l.length∧off=q.1∧lk none (T.fld.map fun p=>(p.1,some p.2)) t=some l:=by
 simp only [Tab.lang] at h
 split at h
 ·rename_i l hl
  split at h
  ·rename_i q hq
   simp only [Option.some.injEq,Prod.mk.injEq] at h
   obtain ⟨v,h1,h2⟩:=zEn (g:=fun x:List (Nat×Nat)=>x) hl
   subst h2
   exact ⟨l,q,h1,hq,h.1.symm,h.2.symm,hl⟩
  ·cases h
 ·cases h
theorem zG9 (h:TabOK P T) {t:Nat} {l:List (Nat×Nat)} (hm:(t,l)∈T.fld) {f:Nat} {q:Nat×Nat} (hq:l[f]?=some q) :
 ∃ fs fld,P.underlying t=some (.struct fs)∧fs.size=l.length∧fs[f]?=some fld∧fld.offset=q.1∧fld.type=q.2∧∃ i,P.info? fld.type=some i∧i.size≠0:=by
 have h1:=zA5 h.fldE _ hm
 simp only at h1
 split at h1
 ·rename_i fs hu
  have hlen:=congrArg List.length h1
  simp only [List.length_map,Array.length_toList] at hlen
  have h2:=congrArg (fun z=>z[f]?) h1
  simp only [List.getElem?_map,hq,Option.map_some] at h2
  cases hf:fs.toList[f]? with
  | none=>rw [hf] at h2; simp at h2
  | some fld =>
   rw [hf] at h2
   simp only [Option.map_some,Option.some.injEq,Prod.mk.injEq] at h2
   obtain ⟨e1,e2,e3⟩:=h2
   refine ⟨fs,fld,hu,hlen,by simpa using hf,e1,e2,?_⟩
   simp only [Option.map_eq_some_iff] at e3
   obtain ⟨i,e4,e5⟩:=e3
   exact ⟨i,e4,by simpa using e5⟩
 ·have:l=[]:=by simpa using h1.symm
  subst this
  simp at hq
theorem TabOK.lang (h:TabOK P T):LangOK P T.lang:=by
 refine ⟨fun t s ht=>?_,fun t s ht=>?_,fun t ht=>?_,fun t ht=>?_,fun t ht=>?_,fun t ht=>?_,fun t s ht=>?_,fun t ht=>?_,fun t f n off hf=>?_,fun t f n off s hf ht=>?_,fun t f n off s s' hf ht=>?_,h.pair,fun t n ht=>?_,fun t f n off hp hf=>?_,h.mixed,fun t ht=>?_,fun t ht=>zA5 h.ptrs t (by simpa [Tab.lang] using ht),fun t ht=>zA5 h.ifs t (by simpa [Tab.lang] using ht),fun t ht=>zA5 h.concs t (by simpa [Tab.lang] using ht),fun t ht=>?_,fun t zs pl ht=>(by
  obtain ⟨v,h1,rfl⟩:=zEn (g:=fun x:List BV×List (Nat×Nat)=>x) (show lk none (T.obs.map fun p=>(p.1,some p.2)) t=some (zs,pl) from ht)
  have h2:=zA5 h.obs _ h1
  simp only at h2
  split at h2
  ·rename_i fs i hu hi
   split at h2
   ·rename_i z hz
    simp only [Option.some.injEq,Prod.mk.injEq,decide_eq_true_eq] at h2
    exact ⟨fs,i,z,hu,hi,hz,h2.2.2.1,h2.1.symm,h2.2.1,h2.2.2.2⟩
   ·cases h2
  ·cases h2),fun t ht=>(by
  have h1:=zA5 h.maps t (by simpa [Tab.lang] using ht)
  split at h1
  ·rename_i k e hu
   simp only [Option.some.injEq,Prod.mk.injEq,Option.bind_eq_some_iff] at h1
   obtain ⟨h2,i,h3,h4⟩:=h1
   exact ⟨k,e,i,hu,h2,h3,h4⟩
  ·cases h1),h.line⟩
 ·have h1:=zA5 h.info _ (zGU ht)
  simp only [Option.map_eq_some_iff,Prod.mk.injEq] at h1
  obtain ⟨i,e1,e2,e3,z,e4,e5⟩:=h1
  exact ⟨i,z,e1,e2,by simpa using e3,e4,e5⟩
 ·have h1:=zA5 h.under _ (zGU ht)
  simp only [Option.map_eq_some_iff,Prod.mk.injEq] at h1
  obtain ⟨d,e1,e2,_⟩:=h1
  exact ⟨d,e1,e2⟩
 all_goals try
  have h1:=zA5 h.under _ (zGU ht)
  simp only [Option.map_eq_some_iff,Prod.mk.injEq] at h1
  obtain ⟨d,e1,_,e2⟩:=h1
  simp only [Sh.agg,Sh.bare,zXc,Bool.false_eq_true,if_false,Option.some.injEq] at e2
  subst e2
 ·exact e1
 ·exact e1
 ·exact e1
 ·exact e1
 ·have h2:=List.all_eq_true.1 h.slB _ (zGU ht)
  simp only [Bool.and_eq_true,decide_eq_true_eq] at h2
  exact ⟨e1,h2.1.1,h2.1.2,h2.2⟩
 ·have hm:t∈T.plain:=by simpa [Tab.lang] using ht
  have h1:=zA5 h.plain t hm
  simp only [Prod.mk.injEq,Option.map_eq_some_iff] at h1
  obtain ⟨⟨d,e1,e2⟩,i,e3,e4⟩:=h1
  exact ⟨d,i,e1,e2,e3,e4⟩
 ·obtain ⟨l,q,h1,h2,rfl,rfl,_⟩:=zK6 hf
  obtain ⟨fs,fld,e1,e2,e3,e4,_,e5⟩:=zG9 h h1 h2
  exact ⟨fs,fld,e1,e2,e3,e4,e5⟩
 ·obtain ⟨l,q,h1,h2,rfl,rfl,_⟩:=zK6 hf
  have h3:=List.all_eq_true.1 h.fldS _ h1
  simp only [ht,Bool.and_eq_true] at h3
  have h4:=List.all_eq_true.1 h3.2 f (List.mem_range.2 (List.getElem?_eq_some_iff.1 h2).1)
  simp only [Bool.and_eq_true,decide_eq_true_eq,h2,Option.map_some] at h4
  exact ⟨h4.1,h3.1⟩
 ·intro x y hv
  obtain ⟨l,q,h1,h2,rfl,rfl,_⟩:=zK6 hf
  obtain ⟨fs,fld,e1,e2,e3,e4,e4',e5⟩:=zG9 h h1 h2
  have h3:=List.all_eq_true.1 h.fldS _ h1
  simp only [ht,Bool.and_eq_true] at h3
  have h4:=List.all_eq_true.1 h3.2 f (List.mem_range.2 (List.getElem?_eq_some_iff.1 h2).1)
  simp only [zVz hv,Bool.and_eq_true,decide_eq_true_eq,h2,Option.bind_some] at h4
  exact ⟨fs,fld,e1,e3,by rw [e4']; exact h4.2⟩
 ·obtain ⟨v,h1,rfl⟩:=zEn (g:=fun x:Nat=>x) (show lk none (T.ones.map fun p=>(p.1,some p.2)) t=some n from ht)
  have h2:=zA5 h.ones _ h1
  simp only at h2
  split at h2
  ·rename_i fs i hu hi
   split at h2
   ·rename_i z hz
    simp only [Option.some.injEq,Prod.mk.injEq] at h2
    exact ⟨fs,i,z,hu,hi,h2.1,hz,h2.2.1,h2.2.2⟩
   ·cases h2
  ·cases h2
 ·obtain ⟨l,q,h1,h2,rfl,rfl,hl⟩:=zK6 hf
  obtain ⟨fs,fld,e1,e2,e3,e4,e4',e5⟩:=zG9 h h1 h2
  simp only [Tab.lang,hl,h2] at hp
  have hm:q.2∈T.plain:=by simpa using hp
  have h3:=zA5 h.plain _ hm
  simp only [Prod.mk.injEq,Option.map_eq_some_iff] at h3
  obtain ⟨⟨d,k1,k2⟩,_⟩:=h3
  exact ⟨fs,fld,d,e1,e3,by rw [e4']; exact k1,k2⟩
 ·have hm:t∈T.fns:=by simpa [Tab.lang] using ht
  have h1:=zA5 h.fns t hm
  simp only [Option.bind_eq_some_iff] at h1
  exact h1
 ·exact e1
theorem zWr {t ti tj:Nat} (h1:P.underlying t=some (.struct (P.fieldsOf t))) (h2:P.stoodInHeld t=false) (h3:P.eqGuardType P.depth t=false)
 (h4:(P.fieldsOf t).toList.map (fun f=>(f.name == "_",f.offset,f.type))=[(false,0,ti),(false,1,tj)]) (h5:P.underlying ti=some (.int .i64)) (h6:P.underlying tj=some (.int .i64)) (w:World) (a b c d:Int) (x y:Operand) :
 (do eqGuard .eql t x y (.agg #[.int .i64 a,.int .i64 b]) (.agg #[.int .i64 c,.int .i64 d]); binOp .eql t (.agg #[.int .i64 a,.int .i64 b]) (.agg #[.int .i64 c,.int .i64 d])).run P w=.ok (.bool (a == c && b == d)) w ∧
 (do eqGuard .neq t x y (.agg #[.int .i64 a,.int .i64 b]) (.agg #[.int .i64 c,.int .i64 d]); binOp .neq t (.agg #[.int .i64 a,.int .i64 b]) (.agg #[.int .i64 c,.int .i64 d])).run P w=.ok (.bool (!(a == c && b == d))) w:=by
 have hpart:∀ (xs:Array Value) (k:Nat) (v:Value),xs[k]?=some v→(part ti xs k).run P w=.ok v w:=by
  intro xs k v hv
  have hagg:(isAgg ti).run P w=.ok false w:=zCc h5 w
  simp only [part,Sem.run_bind,hagg,Result.andThen_ok,Bool.false_eq_true,if_false,hv,Sem.run_pure]
 have hpart2:∀ (xs:Array Value) (k:Nat) (v:Value),xs[k]?=some v→(part tj xs k).run P w=.ok v w:=by
  intro xs k v hv
  have hagg:(isAgg tj).run P w=.ok false w:=zCc h6 w
  simp only [part,Sem.run_bind,hagg,Result.andThen_ok,Bool.false_eq_true,if_false,hv,Sem.run_pure]
 have key:(Op.eqFields 9999 #[.int .i64 a,.int .i64 b] #[.int .i64 c,.int .i64 d] (P.fieldsOf t).toList).run P w=.ok (a == c && b == d) w:=by
  generalize (P.fieldsOf t).toList=fs at h4
  match fs,h4 with
  | [f,g],h4 =>
   simp only [List.map_cons,List.map_nil,List.cons.injEq,Prod.mk.injEq,and_true] at h4
   obtain ⟨⟨n1,o1,t1⟩,n2,o2,t2⟩:=h4
   have n1':f.name ≠ "_":=by simpa using n1
   have n2':g.name ≠ "_":=by simpa using n2
   have p1:=hpart _ _ _ (show (#[Value.int .i64 a,.int .i64 b])[0]?=some (.int .i64 a) from rfl)
   have p2:=hpart _ _ _ (show (#[Value.int .i64 c,.int .i64 d])[0]?=some (.int .i64 c) from rfl)
   have p3:=hpart2 _ _ _ (show (#[Value.int .i64 a,.int .i64 b])[1]?=some (.int .i64 b) from rfl)
   have p4:=hpart2 _ _ _ (show (#[Value.int .i64 c,.int .i64 d])[1]?=some (.int .i64 d) from rfl)
   have q1:=run_equalIn_int w 9998 ti .i64 .i64 a c h5
   have q2:=run_equalIn_int w 9998 tj .i64 .i64 b d h6
   simp only [Op.eqFields,n1',n2',o1,o2,t1,t2,ne_eq,not_false_eq_true,if_true,Sem.run_bind,p1,p2,Result.andThen_ok,q1]
   cases (a == c)
   ·simp
   ·simp only [Bool.not_true,Bool.false_eq_true,if_false,Sem.run_bind,p3,p4,Result.andThen_ok,q2]
    cases (b == d)<;>simp
  | [],h4=>simp at h4
  | [_],h4=>simp at h4
  | _::_::_::_,h4=>simp at h4
 constructor
 ·simp only [Sem.run_bind,run_eqGuard_agg w .eql t x y _ _ h3,Result.andThen_ok,run_eql_struct,run_equalIn_agg w 9999 t _ _ h1 h2,key]
 ·simp only [Sem.run_bind,run_eqGuard_agg w .neq t x y _ _ h3,Result.andThen_ok,run_neq_struct,run_equalIn_agg w 9999 t _ _ h1 h2,key]
theorem zV1 {t ti tj:Nat} (h1:P.underlying t=some (.struct (P.fieldsOf t))) (h2:P.stoodInHeld t=false) (h3:P.eqGuardType P.depth t=false)
 (h4:(P.fieldsOf t).toList.map (fun f=>(f.name == "_",f.offset,f.type))=[(false,0,ti),(false,1,tj)]) (h5:P.underlying ti=some .string) (h6:P.underlying tj=some (.int .i64)) (w:World) (a:ByteArray) (b:Int) (c:ByteArray) (d:Int) (x y:Operand) :
 (do eqGuard .eql t x y (.agg #[.string a,.int .i64 b]) (.agg #[.string c,.int .i64 d]); binOp .eql t (.agg #[.string a,.int .i64 b]) (.agg #[.string c,.int .i64 d])).run P w=.ok (.bool (decide (a=c) && b == d)) w ∧
 (do eqGuard .neq t x y (.agg #[.string a,.int .i64 b]) (.agg #[.string c,.int .i64 d]); binOp .neq t (.agg #[.string a,.int .i64 b]) (.agg #[.string c,.int .i64 d])).run P w=.ok (.bool (!(decide (a=c) && b == d))) w:=by
 have hpart:∀ (xs:Array Value) (k:Nat) (v:Value),xs[k]?=some v→(part ti xs k).run P w=.ok v w:=by
  intro xs k v hv
  have hagg:(isAgg ti).run P w=.ok false w:=zCc h5 w
  simp only [part,Sem.run_bind,hagg,Result.andThen_ok,Bool.false_eq_true,if_false,hv,Sem.run_pure]
 have hpart2:∀ (xs:Array Value) (k:Nat) (v:Value),xs[k]?=some v→(part tj xs k).run P w=.ok v w:=by
  intro xs k v hv
  have hagg:(isAgg tj).run P w=.ok false w:=zCc h6 w
  simp only [part,Sem.run_bind,hagg,Result.andThen_ok,Bool.false_eq_true,if_false,hv,Sem.run_pure]
 have key:(Op.eqFields 9999 #[.string a,.int .i64 b] #[.string c,.int .i64 d] (P.fieldsOf t).toList).run P w=.ok (decide (a=c) && b == d) w:=by
  generalize (P.fieldsOf t).toList=fs at h4
  match fs,h4 with
  | [f,g],h4 =>
   simp only [List.map_cons,List.map_nil,List.cons.injEq,Prod.mk.injEq,and_true] at h4
   obtain ⟨⟨n1,o1,t1⟩,n2,o2,t2⟩:=h4
   have n1':f.name ≠ "_":=by simpa using n1
   have n2':g.name ≠ "_":=by simpa using n2
   have p1:=hpart _ _ _ (show (#[Value.string a,.int .i64 b])[0]?=some (.string a) from rfl)
   have p2:=hpart _ _ _ (show (#[Value.string c,.int .i64 d])[0]?=some (.string c) from rfl)
   have p3:=hpart2 _ _ _ (show (#[Value.string a,.int .i64 b])[1]?=some (.int .i64 b) from rfl)
   have p4:=hpart2 _ _ _ (show (#[Value.string c,.int .i64 d])[1]?=some (.int .i64 d) from rfl)
   have q1:(Op.equalIn (9998+1) ti (.string a) (.string c)).run P w=.ok (decide (a=c)) w:=by
    have h:=run_equalIn_string (P:=P) w 9998 ti a c h5
    rw [zE4] at h
    exact h
   have q2:=run_equalIn_int w 9998 tj .i64 .i64 b d h6
   simp only [Op.eqFields,n1',n2',o1,o2,t1,t2,ne_eq,not_false_eq_true,if_true,Sem.run_bind,p1,p2,Result.andThen_ok,q1]
   cases (decide (a=c))
   ·simp
   ·simp only [Bool.not_true,Bool.false_eq_true,if_false,Sem.run_bind,p3,p4,Result.andThen_ok,q2]
    cases (b == d)<;>simp
  | [],h4=>simp at h4
  | [_],h4=>simp at h4
  | _::_::_::_,h4=>simp at h4
 constructor
 ·simp only [Sem.run_bind,run_eqGuard_agg w .eql t x y _ _ h3,Result.andThen_ok,run_eql_struct,run_equalIn_agg w 9999 t _ _ h1 h2,key]
 ·simp only [Sem.run_bind,run_eqGuard_agg w .neq t x y _ _ h3,Result.andThen_ok,run_neq_struct,run_equalIn_agg w 9999 t _ _ h1 h2,key]
end
section
variable {s:AS} {K:BV→BV}
theorem zPF (t:Nat):ev s (.tmp t)=s.env t:=rfl
theorem zVw (v:Value):ev s (.const v)=zIs v:=rfl
theorem zX0 (f:FuncId):ev s (.func f)=.one (.fn f []):=rfl
theorem zD5 (d:Nat) (v:SV):(s.put (some d) v).env d=v:=upd_same _ _ _
theorem zCg {d t:Nat} (v:SV) (h:t≠d):(s.put (some d) v).env t=s.env t:=upd_ne _ _ h
theorem zWA (v:SV):s.put none v=s:=rfl
theorem yAl (e:List (Nat×SV)) (r:List (Nat×RC)) (b:List (Nat×SV)) (i:Nat):(AS.of e r b).env i=lk (.one .any) e i:=rfl
theorem zWp (e:List (Nat×SV)) (r:List (Nat×RC)) (b:List (Nat×SV)) (i:Nat):(AS.of e r b).roots i=lk none (r.map fun p=>(p.1,some p.2)) i:=rfl
theorem zWo (e:List (Nat×SV)) (r:List (Nat×RC)) (b:List (Nat×SV)) (i:Nat):(AS.of e r b).boxes i=lk none (b.map fun p=>(p.1,some p.2)) i:=rfl
theorem map_env (i:Nat):(s.map K).env i=mapSV K (s.env i):=rfl
theorem zTL:(s.map K).roots=s.roots:=rfl
theorem zTK (i:Nat):(s.map K).boxes i=(s.boxes i).map (mapSV K):=rfl
theorem zON (r:Nat) (rc:Option RC):(s.setRoot r rc).env=s.env:=rfl
theorem zLA (r:Nat) (rc:Option RC):(s.setRoot r rc).boxes=s.boxes:=rfl
theorem zM5 (r:Nat) (rc:Option RC):(s.setRoot r rc).roots r=rc:=upd_same _ _ _
theorem zRS {r q:Nat} (rc:Option RC) (h:q≠r):(s.setRoot r rc).roots q=s.roots q:=upd_ne _ _ h
theorem zRQ (b:Nat) (sv:SV):(s.setBox b sv).env=s.env:=rfl
theorem zM2 (b:Nat) (sv:SV):(s.setBox b sv).roots=s.roots:=rfl
theorem zOM (b:Nat) (sv:SV):(s.setBox b sv).boxes b=some sv:=upd_same _ _ _
theorem zUG {b q:Nat} (sv:SV) (h:q≠b):(s.setBox b sv).boxes q=s.boxes q:=upd_ne _ _ h
theorem zM6 (l:List (Nat×RC)):(s.setRoots l).env=s.env:=rfl
theorem zJC (l:List (Nat×RC)):(s.setRoots l).boxes=s.boxes:=rfl
theorem zJD (l:List (Nat×RC)) (r:Nat):(s.setRoots l).roots r=(match lk none (l.map fun p=>(p.1,some p.2)) r with
 | some rc=>some rc
 | none=>s.roots r):=rfl
theorem zYi {α:Type} (d:α) (i:Nat) (v:α) (l:List (Nat×α)):lk d ((i,v)::l) i=v:=if_pos rfl
theorem lk_ne {α:Type} (d:α) {i j:Nat} (v:α) (l:List (Nat×α)) (h:j≠i):lk d ((i,v)::l) j=lk d l j:=if_neg h
theorem zZ5 {α:Type} (d:α) (j:Nat):lk d ([]:List (Nat×α)) j=d:=rfl
end
theorem zAb {C:Ctx} {N:Nat} {Q:Exit→AS→Prop} {s:AS} {x y:Code} (h:∀ K:AS→Prop,(∀ s,tri C N y Q s→K s)→tri C N x (thenQ K Q) s):tri C N (.seq x y) Q s:=zYV (h _ fun _ h=>h)
theorem zAk {C:Ctx} {N:Nat} {Q:Exit→AS→Prop} {s:AS} {c:Code} {α:Type} (F:α→AS) (I:α→Prop) (m:α→Nat) (x0:α) (hI:I x0) (h0:Weak C.nl s (F x0))
 (round:∀ x,I x→∀ K:AS→Prop,(∀ s' y,I y→m y<m x→Weak C.nl s' (F y)→K s')→tri C N c (thenQ K Q) (F x)):tri C N (.loop c) Q s :=
 zWY (α:={x // I x}) (fun x=>F x.1) (fun x=>m x.1) ⟨x0,hI⟩ h0 fun x=>round x.1 x.2 _ fun _ y hy hlt hw=>⟨⟨y,hy⟩,hw,hlt⟩
theorem zZp {s:Sh} {x y:s.T}:(BV.val s x=BV.val s y)=(x=y):=by simp
theorem goK {C:Ctx} {N:Nat} {c:Code} {Q:Exit→AS→Prop} {K:AS→Prop} {s:AS} (h:∀ s,tri C N c Q s→K s) (h2:tri C N c Q s):K s:=h s h2
theorem zAr {C:Ctx} {N:Nat} {Q:Exit→AS→Prop} {s:AS} {c:Operand} {x y:Code} (hc:ev s c=.one .unk) (h1:tri C N x Q s) (h2:tri C N y Q s):tri C N (.cond c x y) Q s:=by
 refine ⟨fun γ a w hr hN=>?_⟩
 have hv:=zAn hr c
 rw [hc] at hv
 obtain ⟨b,hv⟩:=hv
 exact wp_cond_split hv (fun _=>h1.run γ a w hr hN) (fun _=>h2.run γ a w hr hN)
theorem bq_t (b:Bool):(b == true)=b:=by cases b<;>rfl
theorem bq_f (b:Bool):(b == false)=!b:=by cases b<;>rfl
end Go.VS
namespace Go.VS
open Go.RowKit
section
variable {E:Know} {nl:Nat} {ops:Array Oper} {s s':AS} {l:List Oper} {K:AS→Prop} {d:Option Tmp} {op:Op} {ty:TypeId} {pos:String} {af:Array Edge}
def stepA (E:Know) (nl:Nat) (ops:Array Oper) (l:List Oper) (K:AS→Prop) (d:Option Tmp) (r:Prop×AS×SV):Prop:=r.1∧runK E nl ops l (r.2.1.put d r.2.2) K
def stepG (E:Know) (nl:Nat) (ops:Array Oper) (l:List Oper) (K:AS→Prop) (d:Option Tmp) (op:Op) (s:AS) (g:Option Bool):Prop:=match g with
 | some b=>(b=true→stepA E nl ops l K d (act E nl s d op))∧(b=false→runK E nl ops l (s.put d zE0) K)
 | none=>False
def zMi (want:Bool):SV→Option Bool
 | .one (.val .bool b)=>some (b == want)
 | .one .skip=>some false
 | _=>none
def zIC (ops:Array Oper) (j:Nat):Option Tmp:=(ops[j]?).bind (·.dst)
def zID (s:AS) (want:Bool):Option Tmp→Option Bool
 | some dj=>zMi want (s.env dj)
 | none=>none
theorem kN:runK E nl ops [] s K=K s:=rfl
theorem kP:runK E nl ops (⟨d,op,ty,pos,af,none⟩::l) s K=stepA E nl ops l K d (act E nl s d op):=by
 apply propext
 simp only [runK,stepK,gate,stepA]
 simp
theorem zJY {j:Nat} {want:Bool}:gate ops s ⟨d,op,ty,pos,af,some (j,want)⟩=zID s want (zIC ops j):=by
 simp only [gate,zIC]
 cases (ops[j]?).bind (·.dst) with
 | none=>rfl
 | some dj =>
  simp only [zID]
  unfold zMi
  split<;>simp_all
theorem kG {j:Nat} {want:Bool}:runK E nl ops (⟨d,op,ty,pos,af,some (j,want)⟩::l) s K=stepG E nl ops l K d op s (zID s want (zIC ops j)):=by
 apply propext
 simp only [runK,stepK,zJY]
 unfold stepG
 cases zID s want (zIC ops j)<;>rfl
theorem zQd {p:Prop} {v:SV}:stepA E nl ops l K d (p,s,v)=(p∧runK E nl ops l (s.put d v) K):=rfl
theorem zRW:stepG E nl ops l K d op s (some true)=stepA E nl ops l K d (act E nl s d op):=by simp [stepG]
theorem zOT:stepG E nl ops l K d op s (some false)=runK E nl ops l (s.put d zE0) K:=by simp [stepG]
theorem zUL {p:Prop} [Decidable p]:stepG E nl ops l K d op s (some (decide p))=((p→stepA E nl ops l K d (act E nl s d op))∧(¬p→runK E nl ops l (s.put d zE0) K)):=by simp [stepG]
theorem zRV {p:Prop} [Decidable p]:stepG E nl ops l K d op s (some (!decide p))=((¬p→stepA E nl ops l K d (act E nl s d op))∧(p→runK E nl ops l (s.put d zE0) K)):=by simp [stepG]
theorem zOc {want b:Bool}:zMi want (.one (.val .bool b))=some (b == want):=rfl
theorem zOd {want:Bool}:zMi want (.one .skip)=some false:=rfl
theorem zOb {want:Bool} {dj:Tmp}:zID s want (some dj)=zMi want (s.env dj):=rfl
def stepB (E:Know) (ops:Array Oper) (l:List Oper) (K:AS→Prop) (d:Option Tmp) (s:AS) (r:Prop×SV):Prop:=r.1∧runQ E ops l (s.put d r.2) K
def stepH (E:Know) (ops:Array Oper) (l:List Oper) (K:AS→Prop) (d:Option Tmp) (op:Op) (s:AS) (g:Option Bool):Prop:=match g with
 | some b=>(b=true→stepB E ops l K d s (zAA E s d op))∧(b=false→runQ E ops l (s.put d zE0) K)
 | none=>False
theorem qN:runQ E ops [] s K=K s:=rfl
theorem qP:runQ E ops (⟨d,op,ty,pos,af,none⟩::l) s K=stepB E ops l K d s (zAA E s d op):=by
 apply propext
 simp only [runQ,gate,stepB]
 simp
theorem qG {j:Nat} {want:Bool}:runQ E ops (⟨d,op,ty,pos,af,some (j,want)⟩::l) s K=stepH E ops l K d op s (zID s want (zIC ops j)):=by
 apply propext
 simp only [runQ,zJY]
 unfold stepH
 cases zID s want (zIC ops j)<;>rfl
theorem zWQ {p:Prop} {v:SV}:stepB E ops l K d s (p,v)=(p∧runQ E ops l (s.put d v) K):=rfl
theorem zRY:stepH E ops l K d op s (some true)=stepB E ops l K d s (zAA E s d op):=by simp [stepH]
theorem zOU:stepH E ops l K d op s (some false)=runQ E ops l (s.put d zE0) K:=by simp [stepH]
theorem zUM {p:Prop} [Decidable p]:stepH E ops l K d op s (some (decide p))=((p→stepB E ops l K d s (zAA E s d op))∧(¬p→runQ E ops l (s.put d zE0) K)):=by simp [stepH]
theorem zRX {p:Prop} [Decidable p]:stepH E ops l K d op s (some (!decide p))=((¬p→stepB E ops l K d s (zAA E s d op))∧(p→runQ E ops l (s.put d zE0) K)):=by simp [stepH]
theorem zPd (x:Operand):act E nl s d (.move x)=((pv E.G s (.move x)).1,s,(pv E.G s (.move x)).2):=by cases d<;>rfl
theorem zMR (x:Operand):zAA E s d (.move x)=pv E.G s (.move x):=by cases d<;>rfl
theorem zQp (x:Operand):act E nl s d (.assign x)=((pv E.G s (.assign x)).1,s,(pv E.G s (.assign x)).2):=by cases d<;>rfl
theorem zOx (x:Operand):zAA E s d (.assign x)=pv E.G s (.assign x):=by cases d<;>rfl
theorem zVc (c x y:Operand):act E nl s d (.pick c x y)=((pv E.G s (.pick c x y)).1,s,(pv E.G s (.pick c x y)).2):=by cases d<;>rfl
theorem zUm (c x y:Operand):zAA E s d (.pick c x y)=pv E.G s (.pick c x y):=by cases d<;>rfl
theorem zVb (t:TypeId) (x:Operand):act E nl s d (.load t x)=((pv E.G s (.load t x)).1,s,(pv E.G s (.load t x)).2):=by cases d<;>rfl
theorem zUl (t:TypeId) (x:Operand):zAA E s d (.load t x)=pv E.G s (.load t x):=by cases d<;>rfl
theorem zHx (x:Operand):act E nl s d (.nilCheck x)=((pv E.G s (.nilCheck x)).1,s,(pv E.G s (.nilCheck x)).2):=by cases d<;>rfl
theorem zLr (x:Operand):zAA E s d (.nilCheck x)=pv E.G s (.nilCheck x):=by cases d<;>rfl
theorem zSo (o:BinOp) (t:TypeId) (x y:Operand) (u:TypeId):act E nl s d (.binOp o t x y u)=((pv E.G s (.binOp o t x y u)).1,s,(pv E.G s (.binOp o t x y u)).2):=by cases d<;>rfl
theorem zRx (o:BinOp) (t:TypeId) (x y:Operand) (u:TypeId):zAA E s d (.binOp o t x y u)=pv E.G s (.binOp o t x y u):=by cases d<;>rfl
theorem zVd (o:UnOp) (t:TypeId) (x:Operand):act E nl s d (.unOp o t x)=((pv E.G s (.unOp o t x)).1,s,(pv E.G s (.unOp o t x)).2):=by cases d<;>rfl
theorem zUn (o:UnOp) (t:TypeId) (x:Operand):zAA E s d (.unOp o t x)=pv E.G s (.unOp o t x):=by cases d<;>rfl
theorem zNz (a b:TypeId) (x:Operand):act E nl s d (.convert a b x)=((pv E.G s (.convert a b x)).1,s,(pv E.G s (.convert a b x)).2):=by cases d<;>rfl
theorem zMP (a b:TypeId) (x:Operand):zAA E s d (.convert a b x)=pv E.G s (.convert a b x):=by cases d<;>rfl
theorem zGr (t:TypeId) (x:Operand) (f:Nat):act E nl s d (.fieldAddr t x f)=((pv E.G s (.fieldAddr t x f)).1,s,(pv E.G s (.fieldAddr t x f)).2):=by cases d<;>rfl
theorem zJz (t:TypeId) (x:Operand) (f:Nat):zAA E s d (.fieldAddr t x f)=pv E.G s (.fieldAddr t x f):=by cases d<;>rfl
theorem zSr (t:TypeId) (x:Operand) (f:Nat):act E nl s d (.field t x f)=((pv E.G s (.field t x f)).1,s,(pv E.G s (.field t x f)).2):=by cases d<;>rfl
theorem zRA (t:TypeId) (x:Operand) (f:Nat):zAA E s d (.field t x f)=pv E.G s (.field t x f):=by cases d<;>rfl
theorem zKM (t:TypeId) (x i:Operand):act E nl s d (.indexAddr t x i)=((pv E.G s (.indexAddr t x i)).1,s,(pv E.G s (.indexAddr t x i)).2):=by cases d<;>rfl
theorem zJA (t:TypeId) (x i:Operand):zAA E s d (.indexAddr t x i)=pv E.G s (.indexAddr t x i):=by cases d<;>rfl
theorem zSs (t:TypeId) (x i:Operand):act E nl s d (.index t x i)=((pv E.G s (.index t x i)).1,s,(pv E.G s (.index t x i)).2):=by cases d<;>rfl
theorem zRB (t:TypeId) (x i:Operand):zAA E s d (.index t x i)=pv E.G s (.index t x i):=by cases d<;>rfl
theorem zSt (t:TypeId) (x:Operand) (a b c:Option Operand):act E nl s d (.slice t x a b c)=((pv E.G s (.slice t x a b c)).1,s,(pv E.G s (.slice t x a b c)).2):=by cases d<;>rfl
theorem zRC (t:TypeId) (x:Operand) (a b c:Option Operand):zAA E s d (.slice t x a b c)=pv E.G s (.slice t x a b c):=by cases d<;>rfl
theorem zNA (x:Operand) (i:Nat):act E nl s d (.extract x i)=((pv E.G s (.extract x i)).1,s,(pv E.G s (.extract x i)).2):=by cases d<;>rfl
theorem zMQ (x:Operand) (i:Nat):zAA E s d (.extract x i)=pv E.G s (.extract x i):=by cases d<;>rfl
theorem zSp (t:TypeId) (ps:Array (Nat×Operand)):act E nl s d (.build t ps)=((pv E.G s (.build t ps)).1,s,(pv E.G s (.build t ps)).2):=by cases d<;>rfl
theorem zRy (t:TypeId) (ps:Array (Nat×Operand)):zAA E s d (.build t ps)=pv E.G s (.build t ps):=by cases d<;>rfl
theorem zLO (f:Fn) (a b:Array Operand):act E nl s d (.makeFunc f a b)=((pv E.G s (.makeFunc f a b)).1,s,(pv E.G s (.makeFunc f a b)).2):=by cases d<;>rfl
theorem zLq (f:Fn) (a b:Array Operand):zAA E s d (.makeFunc f a b)=pv E.G s (.makeFunc f a b):=by cases d<;>rfl
theorem zXw (args:Array Operand) (ats:Array TypeId):act E nl s d (.call {callee:=.builtin .len,args:=args,argTypes:=ats})=((pv E.G s (.call {callee:=.builtin .len,args:=args,argTypes:=ats})).1,s,(pv E.G s (.call {callee:=.builtin .len,args:=args,argTypes:=ats})).2):=by cases d<;>rfl
theorem zWw (args:Array Operand) (ats:Array TypeId):zAA E s d (.call {callee:=.builtin .len,args:=args,argTypes:=ats})=pv E.G s (.call {callee:=.builtin .len,args:=args,argTypes:=ats}):=by cases d<;>rfl
theorem zXz (args:Array Operand) (ats:Array TypeId):act E nl s d (.call {callee:=.builtin .min,args:=args,argTypes:=ats})=((pv E.G s (.call {callee:=.builtin .min,args:=args,argTypes:=ats})).1,s,(pv E.G s (.call {callee:=.builtin .min,args:=args,argTypes:=ats})).2):=by cases d<;>rfl
theorem zWz (args:Array Operand) (ats:Array TypeId):zAA E s d (.call {callee:=.builtin .min,args:=args,argTypes:=ats})=pv E.G s (.call {callee:=.builtin .min,args:=args,argTypes:=ats}):=by cases d<;>rfl
theorem zXy (args:Array Operand) (ats:Array TypeId):act E nl s d (.call {callee:=.builtin .max,args:=args,argTypes:=ats})=((pv E.G s (.call {callee:=.builtin .max,args:=args,argTypes:=ats})).1,s,(pv E.G s (.call {callee:=.builtin .max,args:=args,argTypes:=ats})).2):=by cases d<;>rfl
theorem zWy (args:Array Operand) (ats:Array TypeId):zAA E s d (.call {callee:=.builtin .max,args:=args,argTypes:=ats})=pv E.G s (.call {callee:=.builtin .max,args:=args,argTypes:=ats}):=by cases d<;>rfl
theorem zQo (args:Array Operand) (ats:Array TypeId):act E nl s d (.call {callee:=.builtin .append,args:=args,argTypes:=ats})=ef E.G nl s d (.call {callee:=.builtin .append,args:=args,argTypes:=ats}):=by cases d<;>rfl
theorem zSv (t:TypeId) (x y:Operand):act E nl s d (.store t x y)=ef E.G nl s d (.store t x y):=by cases d<;>rfl
def mkS (b:Bool) (E:Know) (nl:Nat) (s:AS) (d:Tmp) (op:Op):Prop×AS×SV:=match b with
 | true=>((mkV E.G s (some d) op).1,s,(mkV E.G s (some d) op).2)
 | false=>ef E.G nl s (some d) op
def mkP (b:Bool) (E:Know) (s:AS) (d:Tmp) (op:Op):Prop×SV:=match b with
 | true=>mkV E.G s (some d) op
 | false=>bad
theorem zKN {k:Tmp} (t:TypeId) (x y:Operand):act E nl s (some k) (.makeSlice t x y)=mkS (E.own.elem k) E nl s k (.makeSlice t x y):=by
 have h:mkOp E (some k) (.makeSlice t x y)=E.own.elem k:=rfl
 unfold act mkS
 rw [h]
 cases E.own.elem k<;>rfl
theorem zWg {k:Tmp}:mkS true E nl s k op=((mkV E.G s (some k) op).1,s,(mkV E.G s (some k) op).2):=rfl
theorem zTP {k:Tmp}:mkS false E nl s k op=ef E.G nl s (some k) op:=rfl
theorem zJB {k:Tmp} (t:TypeId) (x y:Operand):zAA E s (some k) (.makeSlice t x y)=mkP (E.own.elem k) E s k (.makeSlice t x y):=by
 have h:mkOp E (some k) (.makeSlice t x y)=E.own.elem k:=rfl
 unfold zAA mkP
 rw [h]
 cases E.own.elem k<;>rfl
theorem zWf {k:Tmp}:mkP true E s k op=mkV E.G s (some k) op:=rfl
theorem zSn (t:TypeId):act E nl s d (.alloc t)=ef E.G nl s d (.alloc t):=by cases d<;>rfl
theorem zXv (t:TypeId) (x:Operand):act E nl s d (.box t x)=ef E.G nl s d (.box t x):=by cases d<;>rfl
theorem zSq (x:Operand) (args:Array Operand) (ats:Array TypeId):act E nl s d (.call {callee:=.value x,args:=args,argTypes:=ats})=zLT E nl s d (.call {callee:=.value x,args:=args,argTypes:=ats}):=by cases d<;>rfl
theorem zRz (x:Operand) (args:Array Operand) (ats:Array TypeId):zAA E s d (.call {callee:=.value x,args:=args,argTypes:=ats})=zGM E s d (.call {callee:=.value x,args:=args,argTypes:=ats}):=by cases d<;>rfl
theorem zXx {k:Tmp} (t:TypeId) (n:Nat) (ps:Array (Nat×Operand)) (h:E.own.elem k=false):act E nl s (some k) (.buildSlice t n ps)=((pv E.G s (.buildSlice t n ps)).1,s,(pv E.G s (.buildSlice t n ps)).2):=by simp only [act,mkOp,actO,zF8,zF5,h,Bool.or_false,calls]
theorem zQq {k:Tmp} (t:TypeId) (n:Nat) (ps:Array (Nat×Operand)) (h:E.own.elem k=true):act E nl s (some k) (.buildSlice t n ps)=ef E.G nl s (some k) (.buildSlice t n ps):=by simp only [act,mkOp,actO,zF8,zF5,h,Bool.or_true]
theorem zWx {k:Tmp} (t:TypeId) (n:Nat) (ps:Array (Nat×Operand)) (h:E.own.elem k=false):zAA E s (some k) (.buildSlice t n ps)=pv E.G s (.buildSlice t n ps):=by simp only [zAA,mkOp,zDs,zF8,zF5,h,Bool.or_false,calls]
end
theorem zNH {s:Sh} {x:s.T}:((BV.val s x).single=true∨∃ sh y,BV.val s x=.val sh y)=True:=eq_true (.inr ⟨s,x,rfl⟩)
def litS (b:Bool) (E:Know) (nl:Nat) (s:AS) (k:Tmp) (op:Op):Prop×AS×SV:=match b with
 | true=>ef E.G nl s (some k) op
 | false=>((pv E.G s op).1,s,(pv E.G s op).2)
theorem zVa {E:Know} {nl:Nat} {s:AS} {k:Tmp} {t:TypeId} {n:Nat} {ps:Array (Nat×Operand)}:act E nl s (some k) (.buildSlice t n ps)=litS (E.own.elem k) E nl s k (.buildSlice t n ps):=by
 cases h:E.own.elem k with
 | true=>rw [zQq t n ps h]; rfl
 | false=>rw [zXx t n ps h]; rfl
theorem zTy {E:Know} {nl:Nat} {s:AS} {k:Tmp} {op:Op}:litS true E nl s k op=ef E.G nl s (some k) op:=rfl
theorem zRj {E:Know} {nl:Nat} {s:AS} {k:Tmp} {op:Op}:litS false E nl s k op=((pv E.G s op).1,s,(pv E.G s op).2):=rfl
theorem zLP {sh:Sh} {x:sh.T} {l:List SV}:zDi sh (.one (.val sh x)::l)=(zDi sh l).map (x::·):=by simp [zDi]
theorem zNC {sh:Sh}:zDi sh []=some []:=rfl
def litP (b:Bool) (E:Know) (s:AS) (op:Op):Prop×SV:=match b with
 | true=>bad
 | false=>pv E.G s op
theorem zUk {E:Know} {s:AS} {k:Tmp} {t:TypeId} {n:Nat} {ps:Array (Nat×Operand)}:zAA E s (some k) (.buildSlice t n ps)=litP (E.own.elem k) E s (.buildSlice t n ps):=by
 cases h:E.own.elem k with
 | true=>simp only [zAA,mkOp,zDs,zF8,zF5,h,Bool.or_true]; rfl
 | false=>rw [zWx t n ps h]; rfl
theorem zRi {E:Know} {s:AS} {op:Op}:litP false E s op=pv E.G s op:=rfl
end Go.VS
namespace Go.VS
open Go.RowKit
theorem zBz {P:Program} {f:FuncId} {c:Con} (h:FnSpec P f c) (w:World) (hg:Gd P w) (ho:∀ x,zAQ 0 c.as_ x=[]) (x:TupA c.as_) (vs:List Value) (hn:lends c.as_=0) (hr:zAC 0 c.as_ x=[]) (hpre:c.pre x)
 (ha:zAp ⟨P,fun _=>False,w,fun _=>True,0,fun _=>undef,fun _=>0,[]⟩ gam0 w (zAP 0 c.as_ x) vs) (hout:c.post x={res:=[.val .bool true]}) :
 Calls P f vs.toArray w fun e w'=>e=.returned (.bool true)∧Below w.heap.size w w':=by
 refine (h.run ⟨P,fun _=>False,w,fun _=>True,0,fun _=>undef,fun _=>0,[]⟩ gam0 x vs hpre ⟨rfl,hn.symm,⟨rfl,hg,fun k hk=>hk.elim⟩,fun r hr=>absurd hr (Nat.not_lt_zero r),fun k l hk=>by simp [gam0] at hk,ha,fun p hp=>by rw [hr] at hp; simp at hp,fun p hp=>by rw [ho] at hp; simp at hp⟩).mono fun e w' hx=>?_
 obtain ⟨v,γ',rfl,⟨⟨ids,bids,us,rfl,hres,_⟩,_,_⟩,hk⟩:=hx
 rw [hout] at hres
 obtain ⟨u,us',rfl,hu,_,_,h2⟩:=hres
 subst h2
 obtain ⟨cs,h3,h4⟩:=hu
 simp only [pers] at h3
 subst h3
 have hk':Keep (fun _=>False) w w':=hk
 exact ⟨by rw [show zHi [u]=u from rfl,h4]; rfl,hk'.below⟩
end Go.VS
namespace Go.VS
open Go.RowKit
theorem zBY:∀ (k:Nat) (as_:List AD) (x:TupA as_),(zAP k as_ x).length=as_.length
 | _,[],_=>rfl
 | k,.obj _::as_,x=>congrArg (·+1) (zBY (k+1) as_ x.2)
 | k,.sdat _::as_,x=>congrArg (·+1) (zBY k as_ x.2)
 | k,.dat _::as_,x=>congrArg (·+1) (zBY k as_ x.2)
 | k,.ptr _::as_,x=>congrArg (·+1) (zBY k as_ x.2)
 | k,.fnc _ _::as_,x=>congrArg (·+1) (zBY k as_ x.2)
 | k,.pfn _ _::as_,x=>congrArg (·+1) (zBY k as_ x.2)
 | k,.nilp::as_,x=>congrArg (·+1) (zBY k as_ x.2)
 | k,.lend::as_,x=>congrArg (·+1) (zBY (k+1) as_ x.2)
theorem FnSpec.of_tri' {P:Program} {E:Know} (hE:KnowOK P E) {f:FuncId} {fn:Func} {c:Con} {code:Code} (hf:P.funcs[f]?=some fn) (hname:(fn.name == "runtime.NumGoroutine")=false) (hb:fn.body=some code)
 (hn:Nat.ble c.as_.length fn.ntmps=true)
 (h:∀ (C:Ctx) (x:TupA c.as_),KnowOK C.P E→C.nl=lends c.as_→zCB c.as_ x→c.pre x→tri C fn.ntmps code (retQ E (lends c.as_) fn.results.toList (c.post x)) (entry c.as_ x)):FnSpec P f c :=
 FnSpec.of_tri hE hf hname hb (fun x=>by rw [zBY]; exact Nat.le_of_ble_eq_true hn) h
theorem all_nil {α:Type} {p:α→Prop}:∀ x∈([]:List α),p x:=by intro x hx; simp at hx
theorem all_cons {α:Type} {p:α→Prop} {a:α} {l:List α} (h:p a) (t:∀ x∈l,p x):∀ x∈a::l,p x:=by
 intro x hx
 rcases List.mem_cons.1 hx with rfl|hx
 ·exact h
 ·exact t x hx
theorem FnSpec.zero {P:Program} {f:FuncId} {as_:List AD} {pre:TupA as_→Prop} {post:TupA as_→Out} {m:TupA as_→Nat} (hc:zBf P f):FnSpec P f ⟨as_,fun x=>pre x∧m x<0,post⟩ :=
 ⟨hc,fun _ _ _ _ h _=>absurd h.2 (Nat.not_lt_zero _)⟩
theorem FnSpec.all {P:Program} {f:FuncId} {as_:List AD} {pre:TupA as_→Prop} {post:TupA as_→Out} {m:TupA as_→Nat} (h:∀ n,FnSpec P f ⟨as_,fun x=>pre x∧m x<n,post⟩):FnSpec P f ⟨as_,pre,post⟩ :=
 ⟨(h 0).callable,fun C γ x vs hp he=>(h (m x+1)).run C γ x vs ⟨hp,Nat.lt_succ_self _⟩ he⟩
def headB (E:Know) (o:Oper):Bool:=(!zF8 o.op || mkOp E o.dst o.op) && !zF5 E o.dst o.op
theorem zAc {C:Ctx} {N:Nat} {Q:Exit→AS→Prop} {s:AS} {E:Know} (hE:KnowOK C.P E) (k:Nat) {id:Nat} {l:List Oper} (hd:zEe N l=true) (_hp:((l.take (l.length - k)).all (headB E))=true) (hB:Region.lexTailB .any l.toArray (l.length - k)=true)
 (h:runQ E l.toArray (l.take (l.length - k)) s fun s'=>runK E C.nl l.toArray (l.drop (l.length - k)) s' (Q .normal)):tri C N (.region id l.toArray true) Q s:=zWW hE _ hd hB h
theorem zPQ {s:Sh} {x:s.T} {bs:List BV}:leaf s (.val s x::bs)=some (x,bs):=by simp [leaf]
theorem zRe {a:Sh} {bs:List BV}:zIJ a (.nils::bs)=some (([]:List a.T),bs):=rfl
theorem zRf {a:Sh} {x:List a.T} {bs:List BV}:zIJ a (.val (.sl a) x::bs)=some (x,bs):=by
 show leaf (.sl a) (.val (.sl a) x::bs)=_
 exact zPQ (s:=.sl a) (x:=x)
theorem zND {sh:Sh} {r:Nat} {l:List SV}:zDi sh (.one (.ref r)::l)=none:=rfl
attribute [push_cast] zAQ Ob.sv fdBVs fdBV zHD callO zH0 viewO asFd fdOne zPG zCl zAS killO zS0 zN1 zN0 zRR zM4 zM3 pvAdd binB binU isC zAz Value.oneCell' List.any_cons List.any_nil List.mem_cons zE8 zFS zLE zVV zPQ zRe zRf zFr zFN zD7 zeroCells zGz tailF oneF zJT tailO oneO List.cons_append List.set_cons_zero List.set_cons_succ zND Bool.not_not zGs true_or or_true zNH zG0 sized fitsT BV.single Sh.agg Bool.not_false List.any_nil List.any_cons Nat.mul_zero Nat.add_zero zM6 zJC zJD pvEq lens zLP zNC Sh.size zEa zQd zRW zOT zUL zRV zOc zOd zOb zIC zPd zQp zVc zVb zHx zSo zVd zNz zGr zSr zKM zSs zSt zNA zSp zLO zXw zXz zXy zQo zSv zKN zSn zXv zSq zVa zTy zRj zWg zTP zWf zJB mkV thaw zBM zWQ zRY zOU zUM zRX zMR zOx zUm zUl zLr zRx zUn zMP zJz zRA zJA zRB zRC zMQ zRy zLq zWw zWz zWy zRz zUk zRi zGM zLT zPF zVw zX0 zIs pv ef binI badE bad zD5 zCg zWA yAl zWp zWo zYi lk_ne zZ5 AS.put_roots AS.put_boxes map_env zTL zTK zON zLA zM5 zRS mapSV killR zBG killB zJ2 names zRQ zM2 zOM zUG true_and and_true ne_eq not_false_eq_true List.map_cons List.map_nil thenQ zAh if_true if_false Int.toNat_natCast idxOK cutOK Sh.zero Bool.or_false Bool.or_true Bool.false_or Bool.true_or Bool.or_self List.elem_cons List.elem_nil forall_const false_implies implies_true bq_t bq_f beq_self_eq_true Bool.not_eq_true' Bool.not_eq_false' decide_eq_true_eq decide_eq_false_iff_not Bool.false_eq_true Bool.true_eq_false Option.map_some Option.map_none Option.bind_some decide_true decide_false Bool.not_true List.getElem?_toArray List.getElem?_cons_zero List.getElem?_cons_succ List.getD_cons_zero List.getD_cons_succ List.take_succ_cons List.take_zero List.drop_succ_cons List.drop_zero List.length_cons List.length_nil Sh.flat callE callF zCV callL zAM zEB viewL offR zHI whole killL zIW offFn zCn zS1 zN2 zN3 zB6 viewA zO3 zDW zE1 zCK zEV zBj zF7 zR5 zAs zDS zI1 zAN callC callR callV List.all_cons List.all_nil Bool.and_true Bool.true_and Option.getD_some rid newR Option.isNone_some Option.isNone_none Option.isSome_some Option.isSome_none Bool.false_and emptyRC List.mem_cons List.not_mem_nil or_false forall_eq_or_imp forall_eq zFy convs conv convS false_or zZp List.nodup_cons List.mem_singleton retQ retOK zBh resSV zAw zXe List.append_nil List.nodup_nil List.nil_append Option.some.injEq entry Clo.con enumE zAP zAC lends zCB Sh.fits leftA zI7 zP7 List.cons_append Nat.zero_le exists_eq_left'
end Go.VS
namespace Go.VS
open Go.RowKit
def setD (D:Nat→Bool) (i:Nat):Nat→Bool:=fun k=>D k || k == i
def preds (o:Oper):List Nat:=(o.after.toList.filter (Region.binds .any)).map (·.on)
def ordB (l:List Oper):Bool:=(List.range l.length).all fun i=>match l[i]? with
 | some o=>(preds o).all fun k=>decide (k<i)
 | none=>true
def zS5 (E:Know) (nl:Nat) (ops:Array Oper) (Inv:(Nat→Bool)→AS→Prop):Nat→List Oper→Prop
 | _,[]=>True
 | i,o::l=>(∀ D s,D i=false→(preds o).all D=true→Inv D s→runK E nl ops [o] s (Inv (setD D i)))∧zS5 E nl ops Inv (i+1) l
theorem zL9 {E:Know} {nl:Nat} {ops:Array Oper} {Inv:(Nat→Bool)→AS→Prop}:∀ (l:List Oper) (k i:Nat) (o:Oper),zS5 E nl ops Inv k l→l[i]?=some o →
 ∀ D s,D (k+i)=false→(preds o).all D=true→Inv D s→stepK E nl ops s o (Inv (setD D (k+i)))
 | [],_,_,_,_,h=>by simp at h
 | o'::l,k,0,o,h,hi=>by
  simp only [List.getElem?_cons_zero,Option.some.injEq] at hi
  subst hi
  exact h.1
 | o'::l,k,i+1,o,h,hi=>by
  rw [List.getElem?_cons_succ] at hi
  have:=zL9 l (k+1) i o h.2 hi
  rwa [show k+1+i=k+(i+1) by omega] at this
section
variable {C:Ctx} {E:Know} {γ:Gam} {s:AS} {a:Act} {w:World} {ops:Array Oper}
theorem zL3 {q q':Nat→Bool} {t:Nat} (hi:∀ x,q' x=true→q x=true) (h1:q t=true) (h2:q' t=false):∀ n:Nat,((List.range n).countP q'≤(List.range n).countP q)∧(t<n→(List.range n).countP q'+1≤(List.range n).countP q)
 | 0=>⟨by simp,fun h=>by omega⟩
 | n+1=>by
  obtain ⟨k1,k2⟩:=zL3 hi h1 h2 n
  rw [List.range_succ,List.countP_append,List.countP_append,List.countP_singleton,List.countP_singleton]
  have h3:(if q' n=true then 1 else 0)≤(if q n=true then 1 else 0):=by
   cases hq:q' n with
   | false=>simp
   | true=>simp [hi n hq]
  refine ⟨by omega,fun ht=>?_⟩
  rcases Nat.lt_or_ge t n with hlt|hge
  ·have:=k2 hlt; omega
  ·have:t=n:=by omega
   subst this
   simp only [h1,h2,if_true]
   simp
   omega
theorem least_of {p:Nat→Prop}:∀ (n:Nat),(∃ k,k<n∧p k)→∃ k,k<n∧p k∧∀ j,j<k→¬p j
 | 0,⟨k,hk,_⟩=>by omega
 | n+1,⟨k,hk,hp⟩=>by
  by_cases h:∃ k,k<n∧p k
  ·obtain ⟨k',h1,h2,h3⟩:=least_of n h
   exact ⟨k',by omega,h2,h3⟩
  ·have hkn:k=n:=by
    rcases Nat.lt_or_ge k n with h1|h1
    ·exact absurd ⟨k,h1,hp⟩ h
    ·omega
   subst hkn
   exact ⟨k,hk,hp,fun j hj hpj=>h ⟨j,hj,hpj⟩⟩
theorem zNu (hE:KnowOK C.P E) {N:Nat} {Inv:(Nat→Bool)→AS→Prop} {Q':Exit→Act→World→Prop} (hd:∀ (j:Nat) (o:Oper),ops[j]?=some o→dstOK N o.dst=true)
 (hord:∀ (i:Nat) (o:Oper),ops[i]?=some o→∀ k∈preds o,k<i)
 (hstep:∀ (i:Nat) (o:Oper),ops[i]?=some o→∀ D s,D i=false→(preds o).all D=true→Inv D s→stepK E C.nl ops s o (Inv (setD D i)))
 (hQ:∀ D s γ a w,(∀ k,k<ops.size→D k=true)→Inv D s→Rel C γ s a w→a.tmps.size=N→Q' .normal a w) :
 ∀ (f:Nat) (listed:Array Bool) (s:AS) (γ:Gam) (a:Act) (w:World),listed.size=ops.size→(List.range ops.size).countP (fun k=>!listed.getD k false)≤f →
  Rel C γ s a w→a.tmps.size=N→Inv (fun k=>listed.getD k false) s→wpAny C.P .any ops Q' f listed a w:=by
 have done:∀ (listed:Array Bool),listed.size=ops.size→Region.ready .any ops listed=[]→∀ k,k<ops.size→listed.getD k false=true:=by
  intro listed hsz hr k hk
  apply Classical.byContradiction
  intro hn
  obtain ⟨m,hm,hm1,hm2⟩:=least_of (p:=fun k=>¬listed.getD k false=true) ops.size ⟨k,hk,hn⟩
  have:m∈Region.ready .any ops listed:=by
   refine mem_ready.2 ⟨?_,ops[m],by simp [hm],fun e he hb=>?_⟩
   ·rw [Bool.not_eq_true] at hm1
    simp [hsz,hm] at hm1 ⊢
    exact hm1
   ·have h1:=hord m ops[m] (by simp [hm]) e.on (List.mem_map.2 ⟨e,List.mem_filter.2 ⟨by simpa using he,hb⟩,rfl⟩)
    have h2:=hm2 e.on h1
    exact Classical.byContradiction h2
  rw [hr] at this
  cases this
 intro f
 induction f with
 | zero =>
  intro listed s γ a w hsz hc h hN hI
  have hall:∀ k,k<ops.size→listed.getD k false=true:=fun k hk=>by
   have h0:(List.range ops.size).countP (fun k=>!listed.getD k false)=0:=by omega
   rw [List.countP_eq_zero] at h0
   have:=h0 k (List.mem_range.2 hk)
   simpa using this
  refine ⟨?_,hQ _ _ _ _ _ hall hI h hN⟩
  cases hr:Region.ready .any ops listed with
  | nil=>rfl
  | cons m rs =>
   have hm:m∈Region.ready .any ops listed:=by rw [hr]; exact List.mem_cons_self ..
   obtain ⟨h1,o,ho,_⟩:=mem_ready.1 hm
   have hmlt:m<ops.size:=by
    rcases Nat.lt_or_ge m ops.size with h|h
    ·exact h
    ·rw [Array.getElem?_eq_none h] at ho; cases ho
   have h2:=hall m hmlt
   simp [hsz,hmlt] at h1 h2
   rw [h1] at h2
   cases h2
 | succ f ih =>
  intro listed s γ a w hsz hc h hN hI
  refine ⟨fun hr=>hQ _ _ _ _ _ (done listed hsz hr) hI h hN,fun i hi=>?_⟩
  obtain ⟨h1,o,ho,hall⟩:=mem_ready.1 hi
  have hilt:i<ops.size:=by
   rcases Nat.lt_or_ge i ops.size with h|h
   ·exact h
   ·rw [Array.getElem?_eq_none h] at ho; cases ho
  have hDi:listed.getD i false=false:=by
   simp [hsz,hilt] at h1 ⊢
   exact h1
  have hset:∀ k,(listed.setIfInBounds i true).getD k false=setD (fun k=>listed.getD k false) i k:=fun k=>by
   unfold setD
   by_cases hk:k=i
   ·subst hk
    simp [hsz,hilt]
   ·have:(k == i)=false:=by simpa using hk
    rw [this,Bool.or_false]
    simp only [Array.getD_eq_getD_getElem?,Array.getElem?_setIfInBounds]
    rw [if_neg (fun h=>hk h.symm)]
  have hk:=hstep i o ho (fun k=>listed.getD k false) s hDi (by
   rw [List.all_eq_true]
   intro k hk
   obtain ⟨e,he,rfl⟩:=List.mem_map.1 hk
   obtain ⟨he1,he2⟩:=List.mem_filter.1 he
   exact hall e (by simpa using he1) he2) hI
  have h2:=zCY (ops:=ops) (Q:=Q') hE h (by rw [hN]; exact hd) (o:=o) (by rw [hN]; exact hd i o ho) hk
   (next:=wpAny C.P .any ops Q' f (listed.setIfInBounds i true)) (fun s' γ' a' w' k1 k2 k3=>ih _ s' γ' a' w' (by simp [hsz]) (by
    have h5:=(zL3 (q:=fun k=>!listed.getD k false) (q':=fun k=>!(listed.setIfInBounds i true).getD k false) (t:=i) (fun x hx=>by
     rw [hset] at hx
     simp only [setD,Bool.not_eq_true',Bool.or_eq_false_iff] at hx
     simp only [Bool.not_eq_true']
     exact hx.1) (by simp only [hDi]; rfl) (by rw [hset]; simp [setD]) ops.size).2 hilt
    omega) k1 (k2.trans hN) (by
    have e:(fun k=>(listed.setIfInBounds i true).getD k false)=setD (fun k=>listed.getD k false) i:=funext hset
    rw [e]; exact k3))
  unfold wpOp
  simp only [ho]
  split
  ·rename_i hw
   rw [if_pos hw] at h2
   exact .inl h2
  ·rename_i hw
   rw [if_neg hw] at h2
   exact h2
end
theorem zBL {C:Ctx} {N:Nat} {Q:Exit→AS→Prop} {s:AS} {E:Know} (hE:KnowOK C.P E) {id:Nat} {l:List Oper} (Inv:(Nat→Bool)→AS→Prop) (hd:zEe N l=true) (ho:ordB l=true)
 (h0:Inv (fun _=>false) s) (hs:zS5 E C.nl l.toArray Inv 0 l) (hQ:∀ D s',(∀ k,k<l.length→D k=true)→Inv D s'→Q .normal s'):tri C N (.region id l.toArray true) Q s:=by
 refine ⟨fun γ a w hr hN=>?_⟩
 have hd':∀ (j:Nat) (o:Oper),l.toArray[j]?=some o→dstOK N o.dst=true:=fun j o ho=>zBp (ops:=l.toArray) (by simpa using hd) j o ho
 refine wp_region_any hE.lang.mixed ?_
 have hr':Rel C γ s a {w with drawn:=w.drawn+1}:=hr.world ⟨rfl,rfl,rfl,Nat.le_refl _,fun _ _ _=>rfl⟩
 refine zNu (ops:=l.toArray) (Inv:=Inv) hE hd' (fun i o hi k hk=>?_) (fun i o hi D s=>?_) (fun D s' γ' a' w' hD hI h1 h2=>⟨s',γ',h1,h2,hQ D s' (by simpa using hD) hI⟩) l.toArray.size _ s γ a _ (by simp) (Nat.le_trans List.countP_le_length (by simp)) hr' hN ?_
 ·have hi':l[i]?=some o:=by simpa using hi
  have hil:i<l.length:=by
   rcases Nat.lt_or_ge i l.length with h|h
   ·exact h
   ·rw [List.getElem?_eq_none h] at hi'; cases hi'
  unfold ordB at ho
  rw [List.all_eq_true] at ho
  have:=ho i (List.mem_range.2 hil)
  rw [hi'] at this
  simp only [List.all_eq_true,decide_eq_true_eq] at this
  exact this k hk
 ·have:=zL9 l 0 i o hs (by simpa using hi) D s
  rwa [Nat.zero_add] at this
 ·have e:(fun k=>(Array.replicate l.toArray.size false).getD k false)=fun _=>false:=funext fun k=>getD_replicate_false _ _
  rw [e]; exact h0
end Go.VS
namespace Go.VS
open Go.RowKit
theorem zLH {C:Ctx} {N:Nat} {Q:Exit→AS→Prop} {s:AS} {c:Code} (h:tri C N c (fun e s=>∃ t,Weak C.nl s t∧Q e t) s):tri C N c Q s :=
 ⟨fun γ a w hr hN=>wp_mono (h.run γ a w hr hN) fun _ _ _ ⟨_,_,h1,h2,t,h3,h4⟩=>⟨t,_,h3.rel h1,h2,h4⟩⟩
section
variable {E:Know} {nl:Nat} {s:AS} {d:Option Tmp}
@[push_cast] theorem zQr (t:TypeId) (x:Operand):act E nl s d (.makeInterface t x)=((pv E.G s (.makeInterface t x)).1,s,(pv E.G s (.makeInterface t x)).2):=by cases d<;>rfl
@[push_cast] theorem zP3 (t:TypeId) (x:Operand):zAA E s d (.makeInterface t x)=pv E.G s (.makeInterface t x):=by cases d<;>rfl
@[push_cast] theorem zY9 (t:TypeId) (m x:Operand) (c:Bool):act E nl s d (.lookup t m x c)=((pv E.G s (.lookup t m x c)).1,s,(pv E.G s (.lookup t m x c)).2):=by cases d<;>rfl
@[push_cast] theorem zYB (t:TypeId) (m x:Operand) (c:Bool):zAA E s d (.lookup t m x c)=pv E.G s (.lookup t m x c):=by cases d<;>rfl
end
def flatI:RC→List Int
 | .flat _ s xs=>(zAT (.sl s) (.sl .int) xs).getD []
 | _=>[]
@[push_cast] theorem zA1 (e:TypeId) (l:List Int):flatI (.flat e .int l)=l:=by
 simp only [flatI,zEa,Option.getD_some]
def deepJ:RC→List (List Int)
 | .deep _ _ s xss=>(zAT (.sl (.sl s)) (.sl (.sl .int)) xss).getD []
 | _=>[]
@[push_cast] theorem zJK (e e2:TypeId) (p:List (List Int)):deepJ (.deep e e2 .int p)=p:=by
 simp only [deepJ,zEa,Option.getD_some]
end Go.VS
