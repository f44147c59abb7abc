/- Value semantics, part O: calls of functions that have a contract are sound. Over any program; no condition. -/
import Derived.Test.YtaldpinkkgdklaaVsN
namespace Go.VS
open Go.RowKit
set_option linter.unusedSimpArgs false
set_option linter.unusedVariables false

section
variable {C : Ctx} {E : Know} {γ : Gam} {s : AS} {a : Act} {w : World}

theorem exec_call {P : Program} {f : FuncId} (hc : Callable P f) {ρ : Operand → Value} {x : Operand} {caps : Array Value} (hx : ρ x = .func (.func f) #[] caps) (args : Array Operand) (ats : Array TypeId) (d : Option Tmp) (ty : TypeId) (pos : String) (af : Array Edge) (gd : Option (Nat × Bool)) (w : World) :
    (execOp ρ ⟨d, .call { callee := .value x, args := args, argTypes := ats }, ty, pos, af, gd⟩).run P w = .ok (.enter f (args.map ρ ++ caps)) w := by
  obtain ⟨fn, h1, h2, h3⟩ := hc
  have h2' : fn.name ≠ "runtime.NumGoroutine" := by simpa using h2
  have h3' : fn.body ≠ none := fun e => by rw [e] at h3; simp at h3
  simp only [execOp, resolve, hx, Deferred.ofValue]
  simp [invoke, callFunc, h1, h2', h3']

/-! ### Arguments -/
theorem vrep_zone {Z Z' : Nat → Prop} (h : ∀ b, Z b → Z' b) {sh : Sh} {x : sh.T} {v : Value} (hv : vrep w Z sh x v) : vrep w Z' sh x v :=
  let ⟨cs, h1, h2⟩ := hv
  ⟨cs, pers_mono (Nat.le_refl _) (fun b _ hz => ⟨h b hz, rfl⟩) sh x cs h1, h2⟩

theorem vrep_flat {Z Z' : Nat → Prop} {sh : Sh} (hf : sh.flat = true) {x : sh.T} {v : Value} (hv : vrep w Z sh x v) : vrep w Z' sh x v :=
  let ⟨cs, h1, h2⟩ := hv
  ⟨cs, (pers_flat sh x cs hf).2 ((pers_flat sh x cs hf).1 h1), h2⟩

theorem viewBV_rep (h : Rel C γ s a w) {b : BV} {v : Value} {sh : Sh} {x : sh.T} (hv : bvRep C γ w b v) (hb : viewBV s sh b = some x) {Z : Nat → Prop} (hZ : (∀ g, Z g) ∨ (strictSV (.one b) = true ∧ ∀ g, C.zn γ g → Z g)) : vrep w Z sh x v := by
  have hsub : ∀ g, C.zn γ g → Z g := fun g hg => hZ.elim (fun h => h g) (fun h => h.2 g hg)
  unfold viewBV at hb
  split at hb
  · obtain ⟨rfl, rfl⟩ := cast_val hb
    exact vrep_zone hsub hv
  · split at hb
    · simp only [Option.some.injEq] at hb
      subst hb
      simp only [bvRep] at hv
      exact ⟨[v], ⟨none, 0, by rw [hv]; rfl, Nat.le_refl _, Nat.zero_le _, fun i hi => by simp at hi⟩, rfl⟩
    · cases hb
  · rename_i r
    have hz : ∀ g, Z g := hZ.elim id (fun h => by simp [strictSV] at h)
    simp only [bvRep] at hv
    split at hb
    · rename_i e a' xs hr
      obtain ⟨rfl, rfl⟩ := cast_val hb
      obtain ⟨hf, h1, h2⟩ := h.roots r _ hr
      exact ⟨[v], by rw [hv]; exact frozen_flat hf h1 (fun g _ => hz g), rfl⟩
    · rename_i e e2 a' xss hr
      obtain ⟨rfl, rfl⟩ := cast_val hb
      obtain ⟨hf, h1, h2, h3⟩ := h.roots r _ hr
      exact ⟨[v], by rw [hv]; exact frozen_deep hf h1 (fun g _ => hz g) (fun i xs hi => ⟨(h3 i xs hi).1, fun g _ => hz g⟩), rfl⟩
    · cases hb
  · rename_i r i
    have hz : ∀ g, Z g := hZ.elim id (fun h => by simp [strictSV] at h)
    simp only [bvRep] at hv
    split at hb
    · rename_i e e2 a' xss hr
      split at hb
      · rename_i hi
        obtain ⟨rfl, rfl⟩ := cast_val hb
        obtain ⟨hf, h1, h2, h3⟩ := h.roots r _ hr
        have hgi : xss.getD i [] = xss[i] := by simp [List.getD_eq_getElem?_getD, hi]
        obtain ⟨k1, k2⟩ := h3 i xss[i] (by simp [hi])
        refine ⟨[v], ?_, rfl⟩
        rw [hv]
        show pers w Z (.sl a') (xss.getD i []) [γ.rows r i]
        rw [hgi]
        exact frozen_flat hf k1 (fun g _ => hz g)
      · cases hb
    · cases hb
  · cases hb

theorem viewSV_rep (h : Rel C γ s a w) {b : SV} {v : Value} {sh : Sh} {x : sh.T} (hv : svRep C γ w b v) (hb : viewSV s sh b = some x) {Z : Nat → Prop} (hZ : (∀ g, Z g) ∨ (strictSV b = true ∧ ∀ g, C.zn γ g → Z g)) : vrep w Z sh x v := by
  unfold viewSV at hb
  split at hb
  · exact viewBV_rep h hv hb hZ
  · cases hb

theorem viewPtr_rep (h : Rel C γ s a w) {b : SV} {v : Value} {sh : Sh} {x : sh.T} (hv : svRep C γ w b v) (hb : viewPtr s sh b = some x) {Z : Nat → Prop} (hZ : (∀ g, Z g) ∨ (strictSV b = true ∧ ∀ g, C.zn γ g → Z g)) : ptrRep w Z sh x v := by
  have hsub : ∀ g, C.zn γ g → Z g := fun g hg => hZ.elim (fun h => h g) (fun h => h.2 g hg)
  unfold viewPtr at hb
  split at hb
  · obtain ⟨rfl, rfl⟩ := cast_val hb
    obtain ⟨b, off, cs, h1, h2, h3, h4, h5⟩ := hv
    exact ⟨b, off, cs, h1, hsub b h2, h3, pers_mono (Nat.le_refl _) (fun b _ hz => ⟨hsub b hz, rfl⟩) _ _ cs h4, h5⟩
  · rename_i b
    have hz : ∀ g, Z g := hZ.elim id (fun h => by simp [strictSV] at h)
    simp only [svRep, bvRep] at hv
    split at hb
    · rename_i bv hbx
      obtain ⟨cs, t, d1, ⟨v', d2, d2'⟩, d3, d4, d5⟩ := h.boxes b _ hbx
      obtain ⟨cs', k1, k2⟩ := viewBV_rep h d2 hb (Z := Z) (.inl hz)
      refine ⟨γ.bx b, 0, cs', hv, hz _, h.ownlt _ _ d4, k1, fun j c hj => ?_⟩
      rw [Nat.zero_add, cell_of_row w _ j cs t (0, 0) d1]
      rw [k2, pack_cells sh x cs' k1] at d2'
      rw [← d2'] at hj
      simpa using hj
    · cases hb
  · cases hb

theorem viewSVs_rep (h : Rel C γ s a w) {Z : Nat → Prop} : ∀ (as : List Sh) (svs : List SV) (vs : List Value) (x : TupT as), viewSVs s as svs = some x → svs.length = vs.length →
    (∀ (i : Nat) (sv : SV) (v : Value), svs[i]? = some sv → vs[i]? = some v → svRep C γ w sv v) → ((∀ g, Z g) ∨ (svs.all strictSV = true ∧ ∀ g, C.zn γ g → Z g)) → argsRep w Z as x vs
  | [], [], [], _, _, _, _, _ => rfl
  | [], [], _ :: _, _, _, hl, _, _ => by simp at hl
  | [], _ :: _, _, _, hb, _, _, _ => by simp [viewSVs] at hb
  | _ :: _, [], _, _, hb, _, _, _ => by simp [viewSVs] at hb
  | _ :: _, _ :: _, [], _, _, hl, _, _ => by simp at hl
  | sh :: as, sv :: svs, v :: vs, x, hb, hl, hr, hZ => by
    simp only [viewSVs] at hb
    split at hb
    · rename_i x1 x2 h1 h2
      simp only [Option.some.injEq] at hb
      subst hb
      refine ⟨v, vs, rfl, viewSV_rep h (hr 0 sv v rfl rfl) h1 ?_, viewSVs_rep h as svs vs x2 h2 (by simpa using hl) (fun i sv' v' e1 e2 => hr (i + 1) sv' v' (by simpa using e1) (by simpa using e2)) ?_⟩
      · rcases hZ with hZ | hZ
        · exact .inl hZ
        · simp only [List.all_cons, Bool.and_eq_true] at hZ
          exact .inr ⟨hZ.1.1, hZ.2⟩
      · rcases hZ with hZ | hZ
        · exact .inl hZ
        · simp only [List.all_cons, Bool.and_eq_true] at hZ
          exact .inr ⟨hZ.1.2, hZ.2⟩
    · cases hb

theorem viewCaps_rep (h : Rel C γ s a w) : ∀ (as : List Sh) (ids : List Nat) (y : TupT as), viewCaps s as ids = some y → ptrsRep w (fun _ => True) as y (ids.map fun b => Value.pointer (some ⟨γ.bx b, 0, none⟩))
  | [], [], _, _ => rfl
  | [], _ :: _, _, hb => by simp [viewCaps] at hb
  | _ :: _, [], _, hb => by simp [viewCaps] at hb
  | sh :: as, b :: bs, y, hb => by
    simp only [viewCaps] at hb
    split at hb
    · rename_i x1 x2 h1 h2
      simp only [Option.some.injEq] at hb
      subst hb
      exact ⟨_, _, rfl, viewPtr_rep h (b := .one (.box b)) rfl h1 (.inl fun _ => trivial), viewCaps_rep h as bs x2 h2⟩
    · cases hb

theorem ptrsRep_mono {w' : World} {Z : Nat → Prop} (k : Keep (fun _ => False) w w') : ∀ (as : List Sh) (y : TupT as) (ps : List Value), ptrsRep w Z as y ps → ptrsRep w' Z as y ps
  | [], _, _, h => h
  | sh :: as, y, ps, h => by
    obtain ⟨v, vs, rfl, ⟨b, off, cs, h1, h2, h3, h4, h5⟩, h6⟩ := h
    have hb : w'.heap[b]? = w.heap[b]? := k.block b h3 (fun h => h)
    refine ⟨v, vs, rfl, ⟨b, off, cs, h1, h2, Nat.lt_of_lt_of_le h3 k.size, pers_mono k.size (fun g hg hz => ⟨hz, k.block g hg (fun h => h)⟩) sh _ cs h4, fun j c hj => ?_⟩, ptrsRep_mono k as y.2 vs h6⟩
    rw [World.cell?_of_block (w := w) (w' := w') (a := ⟨b, off + j, none⟩) hb]
    exact h5 j c hj

theorem argsRep_zone {Z Z' : Nat → Prop} (h : ∀ b, Z b → Z' b) : ∀ (as : List Sh) (x : TupT as) (vs : List Value), argsRep w Z as x vs → argsRep w Z' as x vs
  | [], _, _, h => h
  | _ :: as, x, vs, hv => by
    obtain ⟨v, vs', rfl, h1, h2⟩ := hv
    exact ⟨v, vs', rfl, vrep_zone h h1, argsRep_zone h as x.2 vs' h2⟩

theorem cast_fn {as as' : List Sh} {r r' : Sh} {f : (TupT as → Prop) × (TupT as → r.T)} {g : (TupT as' → Prop) × (TupT as' → r'.T)} (h : tryFn as r as' r' f = some g) : ∃ (e1 : as = as') (e2 : r = r'), g = e1 ▸ e2 ▸ f := by
  unfold tryFn at h
  split at h
  · rename_i e
    obtain ⟨e1, e2⟩ := e
    refine ⟨e1, e2, ?_⟩
    subst e1
    subst e2
    simpa using h.symm
  · cases h

theorem viewFn_rep (hE : KnowOK C.P E) (h : Rel C γ s a w) {as : List Sh} {r : Sh} {sv : SV} {v : Value} {f : (TupT as → Prop) × (TupT as → r.T)} (hv : svRep C γ w sv v) (hb : viewFn E s as r sv = some f) :
    FnOK C.P (fun _ => False) w as r f.1 f.2 v := by
  unfold viewFn at hb
  split at hb
  · obtain ⟨rfl, rfl, rfl⟩ := cast_fn hb
    obtain ⟨g, caps, h1, h2, h3⟩ := hv
    exact ⟨g, caps, h1, h2, fun w1 Z x vs hk => h3 w1 Z x vs (h.keep.step hk (fun _ hf => hf.elim))⟩
  · rename_i g caps
    split at hb
    · rename_i c hc
      split at hb
      · rename_i hflat
        split at hb
        · rename_i y hy
          obtain ⟨e1, e2, e3⟩ := cast_fn hb
          subst e1
          subst e2
          simp only at e3
          subst e3
          have hs := hE.clo g c hc
          simp only [svRep, bvRep] at hv
          refine ⟨g, _, hv, hs.callable, fun w1 Z x vs hk hq hargs => ?_⟩
          have hps := viewCaps_rep h c.caps caps y hy
          have := hs.run w1 (fun _ => True) y x _ vs hq (ptrsRep_mono hk _ _ _ hps) (argsRep_zone (fun _ _ => trivial) _ _ _ hargs)
          have e : (vs ++ caps.map fun b => Value.pointer (some ⟨γ.bx b, 0, none⟩)).toArray = vs.toArray ++ (caps.map fun b => Value.pointer (some ⟨γ.bx b, 0, none⟩)).toArray := by simp
          rw [← e]
          refine this.mono fun e w2 hx => ?_
          obtain ⟨u, h1, h2, h3⟩ := hx
          exact ⟨u, h1, vrep_flat hflat h2, h3⟩
        · cases hb
      · cases hb
    · cases hb
  · cases hb

def calleeCtx (C : Ctx) (w : World) (Z : Nat → Prop) : Ctx := ⟨C.P, fun _ => False, w, Z, 0, fun _ => undef⟩
def gam0 : Gam := ⟨fun _ => ⟨none, 0, 0⟩, fun _ _ => ⟨none, 0, 0⟩, fun _ => 0, fun _ => none⟩

theorem zn0 {Z : Nat → Prop} {b : Nat} (h : Z b) : (calleeCtx C w Z).zn gam0 b := ⟨.inl h, rfl⟩

theorem viewAs_rep (hE : KnowOK C.P E) (h : Rel C γ s a w) {Z : Nat → Prop} (k : Nat) : ∀ (as : List AD) (svs : List SV) (vs : List Value) (x : TupA as), viewAs E s as svs = some x → svs.length = vs.length →
    (∀ (i : Nat) (sv : SV) (v : Value), svs[i]? = some sv → vs[i]? = some v → svRep C γ w sv v) → ((∀ g, Z g) ∨ (svs.all strictSV = true ∧ ∀ g, C.zn γ g → Z g)) →
    bvsRep (calleeCtx C w Z) gam0 w (paramBVs k as x) vs ∧ paramRoots k as x = [] ∧ lends as = 0
  | [], [], [], _, _, _, _, _ => ⟨rfl, rfl, rfl⟩
  | [], [], _ :: _, _, _, hl, _, _ => by simp at hl
  | [], _ :: _, _, _, hb, _, _, _ => by simp [viewAs] at hb
  | _ :: _, [], _, _, hb, _, _, _ => by simp [viewAs] at hb
  | _ :: _, _ :: _, [], _, _, hl, _, _ => by simp at hl
  | d :: as, sv :: svs, v :: vs, x, hb, hl, hr, hZ => by
    simp only [viewAs] at hb
    split at hb
    · rename_i x1 x2 h1 h2
      simp only [Option.some.injEq] at hb
      subst hb
      have hZ1 : (∀ g, Z g) ∨ (strictSV sv = true ∧ ∀ g, C.zn γ g → Z g) := by
        rcases hZ with hZ | hZ
        · exact .inl hZ
        · simp only [List.all_cons, Bool.and_eq_true] at hZ
          exact .inr ⟨hZ.1.1, hZ.2⟩
      have hZ2 : (∀ g, Z g) ∨ (svs.all strictSV = true ∧ ∀ g, C.zn γ g → Z g) := by
        rcases hZ with hZ | hZ
        · exact .inl hZ
        · simp only [List.all_cons, Bool.and_eq_true] at hZ
          exact .inr ⟨hZ.1.2, hZ.2⟩
      obtain ⟨k1, k2, k3⟩ := viewAs_rep hE h k as svs vs x2 h2 (by simpa using hl) (fun i sv' v' e1 e2 => hr (i + 1) sv' v' (by simpa using e1) (by simpa using e2)) hZ2
      have hv := hr 0 sv v rfl rfl
      cases d with
      | dat sh => exact ⟨⟨v, vs, rfl, vrep_zone (fun b hb => zn0 hb) (viewSV_rep h hv h1 hZ1), k1⟩, k2, k3⟩
      | ptr sh =>
        obtain ⟨b, off, cs, e1, e2, e3, e4, e5⟩ := viewPtr_rep h hv h1 hZ1
        exact ⟨⟨v, vs, rfl, ⟨b, off, cs, e1, zn0 e2, e3, pers_mono (Nat.le_refl _) (fun b _ hz => ⟨zn0 hz, rfl⟩) _ _ cs e4, e5⟩, k1⟩, k2, k3⟩
      | fnc l r => exact ⟨⟨v, vs, rfl, viewFn_rep hE h hv h1, k1⟩, k2, k3⟩
      | pfn l r =>
        simp only [viewA, viewPfn] at h1
        split at h1
        · rename_i as' r' q p
          obtain ⟨e1, e2, e3⟩ := cast_fn h1
          subst e1
          subst e2
          simp only at e3
          subst e3
          obtain ⟨b, off, c, d1, d2, d3, d4, g, caps, d5, d6, d7⟩ := hv
          refine ⟨⟨v, vs, rfl, ⟨b, off, c, d1, zn0 ?_, d3, d4, g, caps, d5, d6, fun w1 Z1 y us hk => d7 w1 Z1 y us (h.keep.step hk (fun _ hf => hf.elim))⟩, k1⟩, k2, k3⟩
          rcases hZ1 with hZ1 | hZ1
          · exact hZ1 b
          · simp [strictSV] at hZ1
        · cases h1
      | lend => simp [viewA] at h1
    · cases hb

/-! ### Results -/
theorem lk_some {α β : Type} : ∀ (l : List (Nat × α)) (g : α → β) (k : Nat) (v : α), (l.map (·.1)).Nodup → (k, v) ∈ l → lk none (l.map fun p => (p.1, some (g p.2))) k = some (g v)
  | [], _, _, _, _, h => by simp at h
  | (i, u) :: l, g, k, v, hn, h => by
    simp only [List.map_cons, List.nodup_cons] at hn
    simp only [List.map_cons, lk]
    rcases List.mem_cons.1 h with h | h
    · simp only [Prod.mk.injEq] at h
      obtain ⟨rfl, rfl⟩ := h
      rw [if_pos rfl]
    · rw [if_neg]
      · exact lk_some l g k v hn.2 h
      · intro e
        exact hn.1 (List.mem_map.2 ⟨(k, v), h, e⟩)

theorem lk_inv {α β : Type} {l : List (Nat × α)} {g : α → β} {k : Nat} {y : β} (h : lk none (l.map fun p => (p.1, some (g p.2))) k = some y) : ∃ v, (k, v) ∈ l ∧ y = g v := by
  rcases lk_mem (none : Option β) (l.map fun p => (p.1, some (g p.2))) k with h1 | h1
  · rw [h] at h1; cases h1
  · rw [h] at h1
    simp only [List.mem_map, Prod.mk.injEq, Option.some.injEq] at h1
    obtain ⟨p, hp, e1, e2⟩ := h1
    exact ⟨p.2, by rw [← e1]; exact hp, e2.symm⟩

def invP (l : List (Nat × Nat)) (p : Nat) : Option Nat := lk none (l.map fun q => (q.1, some q.2)) p
def renP (l : List (Nat × Nat)) (r : Nat) : Option Nat := invP (l.map fun q => (q.2, q.1)) r

def renL (l : List (Nat × Nat)) : Loc → Option Loc
  | .hd r => (renP l r).map .hd
  | .row r i => (renP l r).map fun p => .row p i
  | .bx _ => none
  | .mk _ => none

def callGam (γ γ' : Gam) (l : List (Nat × Nat)) (n : Nat) : Gam :=
  ⟨fun p => match invP l p with | some r => γ'.hs r | none => γ.hs p, fun p => match invP l p with | some r => γ'.rs r | none => γ.rs p, γ.bx, fun b => if n ≤ b then (γ'.own b).bind (renL l) else γ.own b⟩

theorem invP_mem {l : List (Nat × Nat)} {p r : Nat} (hn : (l.map (·.1)).Nodup) : invP l p = some r ↔ (p, r) ∈ l := by
  constructor
  · intro h
    obtain ⟨v, h1, h2⟩ := lk_inv (g := fun x : Nat => x) h
    rw [h2]; exact h1
  · intro h
    exact lk_some l (fun x : Nat => x) p r hn h

theorem renP_mem {l : List (Nat × Nat)} {p r : Nat} (hn : (l.map (·.2)).Nodup) : renP l r = some p ↔ (p, r) ∈ l := by
  unfold renP
  rw [invP_mem (by simpa [Function.comp_def] using hn)]
  simp only [List.mem_map, Prod.mk.injEq]
  constructor
  · rintro ⟨q, h1, h2, h3⟩
    rw [← h2, ← h3]; exact h1
  · intro h
    exact ⟨(p, r), h, rfl, rfl⟩

theorem resRoots_rid (d : Nat) : ∀ (res : List RV) (j : Nat), ∀ p ∈ (resRoots d j res).map (·.1), ∃ k, j ≤ k ∧ p = rid d k
  | [], _, p, hp => by simp [resRoots] at hp
  | .val _ _ :: rs, j, p, hp => by
    obtain ⟨k, h1, h2⟩ := resRoots_rid d rs (j + 1) p (by simpa [resRoots] using hp)
    exact ⟨k, by omega, h2⟩
  | .own rc :: rs, j, p, hp => by
    simp only [resRoots, List.map_cons, List.mem_cons] at hp
    rcases hp with hp | hp
    · exact ⟨j, Nat.le_refl _, hp⟩
    · obtain ⟨k, h1, h2⟩ := resRoots_rid d rs (j + 1) p hp
      exact ⟨k, by omega, h2⟩

theorem resRoots_nodup (d : Nat) : ∀ (res : List RV) (j : Nat), ((resRoots d j res).map (·.1)).Nodup
  | [], _ => by simp [resRoots]
  | .val _ _ :: rs, j => by simpa [resRoots] using resRoots_nodup d rs (j + 1)
  | .own rc :: rs, j => by
    simp only [resRoots, List.map_cons, List.nodup_cons]
    refine ⟨fun hp => ?_, resRoots_nodup d rs (j + 1)⟩
    obtain ⟨k, h1, h2⟩ := resRoots_rid d rs (j + 1) _ hp
    simp only [rid] at h2
    omega

theorem resRep_len {C' : Ctx} {γ' : Gam} {w' : World} (d : Nat) : ∀ (res : List RV) (j : Nat) (ids : List Nat) (vs : List Value), resRep C' γ' w' res ids vs → ids.length = (resRoots d j res).length
  | [], _, _, _, h => by rw [h.1]; rfl
  | .val _ _ :: rs, j, ids, vs, h => by
    obtain ⟨v, vs', _, _, h⟩ := h
    exact resRep_len d rs (j + 1) ids vs' h
  | .own rc :: rs, j, ids, vs, h => by
    obtain ⟨v, vs', i, ids', _, rfl, _, _, h⟩ := h
    simp only [resRoots, List.length_cons]
    rw [resRep_len d rs (j + 1) ids' vs' h]

theorem resBVs_rep {C' : Ctx} {γ' γ2 : Gam} {w' : World} (d : Nat) (strict : Bool) (hz : strict = true → ∀ b, C'.zn γ' b → C.zn γ2 b) : ∀ (res : List RV) (j : Nat) (ids : List Nat) (vs : List Value), resRep C' γ' w' res ids vs →
    (∀ p r, (p, r) ∈ ((resRoots d j res).map (·.1)).zip ids → γ2.hd p = γ'.hd r) → bvsRep C γ2 w' (resBVs d strict j res) vs
  | [], _, _, vs, h, _ => h.2
  | .val sh x :: rs, j, ids, vs, h, hm => by
    obtain ⟨v, vs', rfl, h1, h2⟩ := h
    refine ⟨v, vs', rfl, ?_, resBVs_rep d strict hz rs (j + 1) ids vs' h2 hm⟩
    split
    · rename_i hs
      simp only [Bool.or_eq_true] at hs
      rcases hs with hs | hs
      · exact vrep_zone (hz hs) h1
      · exact vrep_flat hs h1
    · trivial
  | .own rc :: rs, j, ids, vs, h, hm => by
    obtain ⟨v, vs', i, ids', rfl, rfl, h1, _, h2⟩ := h
    refine ⟨v, vs', rfl, ?_, resBVs_rep d strict hz rs (j + 1) ids' vs' h2 (fun p r hp => hm p r (by simp [resRoots, hp]))⟩
    show v = γ2.hd (rid d j)
    rw [h1, hm (rid d j) i (by simp [resRoots])]

theorem resRoots_rep {C' : Ctx} {γ' : Gam} {w' : World} (d : Nat) : ∀ (res : List RV) (j : Nat) (ids : List Nat) (vs : List Value), resRep C' γ' w' res ids vs →
    ∀ p rc, (p, rc) ∈ resRoots d j res → ∃ r, (p, r) ∈ ((resRoots d j res).map (·.1)).zip ids ∧ rcRep C' γ' w' r rc
  | [], _, _, _, _, _, _, hp => by simp [resRoots] at hp
  | .val sh x :: rs, j, ids, vs, h, p, rc, hp => by
    obtain ⟨v, vs', rfl, h1, h2⟩ := h
    exact resRoots_rep d rs (j + 1) ids vs' h2 p rc hp
  | .own rc' :: rs, j, ids, vs, h, p, rc, hp => by
    obtain ⟨v, vs', i, ids', rfl, rfl, h1, h3, h2⟩ := h
    simp only [resRoots, List.mem_cons, Prod.mk.injEq] at hp
    rcases hp with ⟨rfl, rfl⟩ | hp
    · exact ⟨i, by simp [resRoots], h3⟩
    · obtain ⟨r, k1, k2⟩ := resRoots_rep d rs (j + 1) ids' vs' h2 p rc hp
      exact ⟨r, by simp [resRoots, k1], k2⟩

theorem packSV_rep {γ2 : Gam} {w' : World} (bs : List BV) (vs : List Value) (h : bvsRep C γ2 w' bs vs) : svRep C γ2 w' (packSV bs) (packRes vs) := by
  match bs, vs, h with
  | [], _, h => simp only [bvsRep] at h; subst h; exact ⟨[], rfl, rfl⟩
  | [b], _, h =>
    obtain ⟨v, vs', rfl, h1, h2⟩ := h
    simp only [bvsRep] at h2
    subst h2
    exact h1
  | b :: b' :: bs, _, h =>
    have h0 := h
    obtain ⟨v, vs', rfl, h1, v2, vs2, rfl, h2, h3⟩ := h
    exact ⟨_, rfl, h0⟩

theorem killRs_forgets {γ2 : Gam} {l : List Nat} (hh : ∀ p, p ∉ l → γ2.hd p = γ.hd p) (hr : ∀ p i, p ∉ l → γ2.rows p i = γ.rows p i) (hb : ∀ x, γ2.bx x = γ.bx x) : Forgets (killRs l) γ γ2 := by
  intro b
  unfold killRs
  split
  · exact .inl rfl
  · rename_i hn
    right
    refine ⟨rfl, ?_⟩
    have hn' : ∀ r ∈ names b, r ∉ l := by
      intro r hr' hl
      exact hn (List.any_eq_true.2 ⟨r, hr', by simpa using hl⟩)
    cases b <;> simp only [Agree] <;> first
      | trivial
      | (exact hb _)
      | (exact fun x _ => hb x)
      | (exact hh _ (hn' _ (List.mem_singleton.2 rfl)))
      | (exact hr _ _ (hn' _ (List.mem_singleton.2 rfl)))

theorem callGam_root {C' : Ctx} {γ' : Gam} {w' : World} {l : List (Nat × Nat)} (h1 : (l.map (·.1)).Nodup) (h2 : (l.map (·.2)).Nodup) (hw : C'.w0 = w) (hL : ∀ b, ¬ C'.L b) (hk : C.w0.heap.size ≤ w.heap.size) {p r : Nat} (hm : (p, r) ∈ l) {rc : RC} (h : rcRep C' γ' w' r rc) :
    rcRep C (callGam γ γ' l w.heap.size) w' p rc := by
  have hi := (invP_mem h1).2 hm
  have hr := (renP_mem h2).2 hm
  have hhd : (callGam γ γ' l w.heap.size).hd p = γ'.hd r := by simp [Gam.hd, callGam, hi]
  have hrow : ∀ i, (callGam γ γ' l w.heap.size).rows p i = γ'.rows r i := fun i => by simp [Gam.rows, callGam, hi]
  have hrf : ∀ m, rowsOf (callGam γ γ' l w.heap.size) p m = rowsOf γ' r m := fun m => by simp [rowsOf, hrow]
  have ho1 : ∀ v, ownB C' γ' v (.hd r) → ownB C (callGam γ γ' l w.heap.size) v (.hd p) := by
    intro v ho k hv
    obtain ⟨e1, e2⟩ := ho k hv
    have e3 : w.heap.size ≤ k := by
      rcases e2 with e2 | e2
      · rw [hw] at e2; exact e2
      · exact absurd e2 (hL k)
    exact ⟨by simp [callGam, e3, e1, renL, hr], .inl (by omega)⟩
  have ho2 : ∀ v i, ownB C' γ' v (.row r i) → ownB C (callGam γ γ' l w.heap.size) v (.row p i) := by
    intro v i ho k hv
    obtain ⟨e1, e2⟩ := ho k hv
    have e3 : w.heap.size ≤ k := by
      rcases e2 with e2 | e2
      · rw [hw] at e2; exact e2
      · exact absurd e2 (hL k)
    exact ⟨by simp [callGam, e3, e1, renL, hr], .inl (by omega)⟩
  cases rc with
  | flat e sh xs => exact ⟨h.1, by rw [hhd]; exact h.2.1, by rw [hhd]; exact ho1 _ h.2.2⟩
  | deep e e2 sh xss => exact ⟨h.1, by rw [hhd, hrf]; exact h.2.1, by rw [hhd]; exact ho1 _ h.2.2.1, fun i xs hx => by
      have h4 := h.2.2.2 i xs hx
      unfold rowRep at *
      rw [hrow]
      exact ⟨h4.1, ho2 _ i h4.2⟩⟩
  | hole e e2 sh xss k => exact ⟨h.1, by rw [hhd, hrf]; exact h.2.1, by rw [hhd]; exact ho1 _ h.2.2.1, fun i xs hne hx => by
      have h4 := h.2.2.2 i xs hne hx
      unfold rowRep at *
      rw [hrow]
      exact ⟨h4.1, ho2 _ i h4.2⟩⟩

theorem zip_fst {α β : Type} : ∀ (l : List α) (m : List β), l.length = m.length → (l.zip m).map (·.1) = l
  | [], [], _ => rfl
  | [], _ :: _, h => by simp at h
  | _ :: _, [], h => by simp at h
  | a :: l, b :: m, h => by simp [zip_fst l m (by simpa using h)]
theorem zip_snd {α β : Type} : ∀ (l : List α) (m : List β), l.length = m.length → (l.zip m).map (·.2) = m
  | [], [], _ => rfl
  | [], _ :: _, h => by simp at h
  | _ :: _, [], h => by simp at h
  | a :: l, b :: m, h => by simp [zip_snd l m (by simpa using h)]

/-- **A call of a function that has a contract.** -/
theorem callE_sound (hE : KnowOK C.P E) (h : Rel C γ s a w) (d : Option Tmp) (f : FuncId) (svs : List SV) (vs : List Value) (hl : svs.length = vs.length)
    (hr : ∀ (i : Nat) (sv : SV) (v : Value), svs[i]? = some sv → vs[i]? = some v → svRep C γ w sv v) (hok : (callE E C.nl s d f svs).1) :
    Callable C.P f ∧ Calls C.P f vs.toArray w (fun e w' => ∃ v γ2, e = .returned v ∧ Rel C γ2 (callE E C.nl s d f svs).2.1 a w' ∧ svRep C γ2 w' (callE E C.nl s d f svs).2.2 v) := by
  unfold callE at hok ⊢
  cases hT : E.T f with
  | none => rw [hT] at hok; exact hok.elim
  | some c =>
    rw [hT] at hok
    simp only at hok ⊢
    cases hv : viewAs E s c.as svs with
    | none => rw [hv] at hok; exact hok.elim
    | some x =>
      rw [hv] at hok
      simp only at hok ⊢
      have hspec := hE.con f c hT
      refine ⟨hspec.callable, ?_⟩
      let strict := svs.all strictSV
      let Z : Nat → Prop := if strict = true then C.zn γ else fun _ => True
      have hZ : (∀ g, Z g) ∨ (svs.all strictSV = true ∧ ∀ g, C.zn γ g → Z g) := by
        by_cases hs : strict = true
        · right
          exact ⟨hs, fun g hg => by simp only [Z, hs, if_true]; exact hg⟩
        · left
          intro g
          simp only [Z, hs]
          trivial
      obtain ⟨k1, k2, k3⟩ := viewAs_rep hE h (Z := Z) 0 c.as svs vs x hv hl hr hZ
      have hpre : c.pre x := by
        split at hok
        · exact hok
        · exact hok.1
      have hcall := hspec.run (calleeCtx C w Z) gam0 x vs hpre ⟨rfl, k3.symm, fun r hr => absurd hr (Nat.not_lt_zero r), fun k l hk => by simp [gam0] at hk, k1, fun p hp => by rw [k2] at hp; simp at hp⟩
      refine hcall.mono fun e w' hx => ?_
      obtain ⟨v, γ', rfl, ⟨⟨ids, us, rfl, hres, hnd⟩, _, holt⟩, hkeep⟩ := hx
      have hkeep' : Keep (fun _ => False) w w' := hkeep
      have hnd1 : ids.Nodup := (List.nodup_append.1 hnd).1
      split
      · rename_i hnil
        have hlen := resRep_len (d.getD 0) (c.post x).res 0 ids us hres
        rw [hnil] at hlen
        have hids : ids = [] := by simpa using hlen
        refine ⟨_, γ, rfl, h.world hkeep', packSV_rep _ _ ?_⟩
        refine resBVs_rep (C' := calleeCtx C w Z) (γ' := γ') (d.getD 0) strict (fun hs b hb => ?_) (c.post x).res 0 ids us hres (fun p r hp => by rw [hnil] at hp; simp at hp)
        have hZs : Z = C.zn γ := by simp only [Z, hs, if_true]
        rcases hb.1 with h1 | h1 | h1
        · have h1' : Z b := h1
          rw [hZs] at h1'; exact h1'
        · have h1' : w.heap.size ≤ b := h1
          refine ⟨.inr (.inl (Nat.le_trans h.keep.size h1')), ?_⟩
          cases ho : γ.own b with
          | none => rfl
          | some l => have := h.ownlt b l ho; omega
        · exact h1.elim
      · rename_i hnil
        have hok' : c.pre x ∧ C.nl ≤ d.getD 0 := by
          split at hok
          · rename_i h0; exact absurd h0 hnil
          · exact hok
        have hlen := resRep_len (d.getD 0) (c.post x).res 0 ids us hres
        let rids := (resRoots (d.getD 0) 0 (c.post x).res).map (·.1)
        let l := rids.zip ids
        have hll : rids.length = ids.length := by simp only [rids, List.length_map]; exact hlen.symm
        have hl1 : l.map (·.1) = rids := zip_fst _ _ hll
        have hl2 : l.map (·.2) = ids := zip_snd _ _ hll
        have hn1 : (l.map (·.1)).Nodup := by rw [hl1]; exact resRoots_nodup _ _ _
        have hn2 : (l.map (·.2)).Nodup := by rw [hl2]; exact hnd1
        have hridge : ∀ p ∈ rids, C.nl ≤ p := by
          intro p hp
          obtain ⟨k, _, h2⟩ := resRoots_rid _ _ _ p hp
          have := hok'.2
          rw [h2]; unfold rid; omega
        have hinv : ∀ p, invP l p ≠ none → p ∈ rids := by
          intro p hp
          cases hi : invP l p with
          | none => exact absurd hi hp
          | some r =>
            have := (invP_mem hn1).1 hi
            rw [← hl1]
            exact List.mem_map.2 ⟨_, this, rfl⟩
        have hinv' : ∀ p, p ∉ rids → invP l p = none := fun p hp => by
          cases hi : invP l p with
          | none => rfl
          | some r => exact absurd (hinv p (by rw [hi]; simp)) hp
        have hsame : ∀ b, b < w.heap.size → (callGam γ γ' l w.heap.size).own b = γ.own b := fun b hb => by simp only [callGam]; rw [if_neg (by omega)]
        have m : Move C γ w (callGam γ γ' l w.heap.size) w' (fun p => p ∈ rids) := by
          refine ⟨⟨hkeep'.size, fun b hb hz => ⟨⟨hz.1, by rw [hsame b hb]; exact hz.2⟩, hkeep'.block b hb (fun h => h)⟩, fun b d hb ho => ⟨by rw [hsame b hb]; exact ho, hkeep'.block b hb (fun h => h)⟩⟩, h.keep.step hkeep' (fun _ hf => hf.elim), fun k lo hk => ?_, fun r hr => ?_, fun p hp => ?_, fun p i hp => ?_, fun _ => rfl, fun b lo hb _ => ⟨by rw [hsame b (h.ownlt b lo hb)]; exact hb, hkeep'.block b (h.ownlt b lo hb) (fun h => h)⟩⟩
          · simp only [callGam] at hk
            split at hk
            · cases ho : γ'.own k with
              | none => rw [ho] at hk; simp at hk
              | some l' => exact holt k l' ho
            · exact Nat.lt_of_lt_of_le (h.ownlt k lo hk) hkeep'.size
          · have : invP l r = none := hinv' r (fun hp => by have := hridge r hp; omega)
            simp only [Gam.hd, callGam, this]
            exact h.lent r hr
          · simp only [Gam.hd, callGam, hinv' p hp]
          · simp only [Gam.rows, callGam, hinv' p hp]
        refine ⟨_, callGam γ γ' l w.heap.size, rfl, ?_, packSV_rep _ _ ?_⟩
        · refine m.rel h (K := killRs rids) (killRs_forgets (fun p hp => m.hd p hp) (fun p i hp => m.rows p i hp) m.bx) (roots' := ((s.map (killRs rids)).setRoots _).roots) (fun p rc hp => ?_)
          simp only [AS.setRoots] at hp
          split at hp
          · rename_i rc' he
            simp only [Option.some.injEq] at hp
            subst hp
            obtain ⟨v', e1, e2⟩ := lk_inv (g := fun x : RC => x) he
            subst e2
            obtain ⟨r, e3, e4⟩ := resRoots_rep (d.getD 0) (c.post x).res 0 ids us hres p rc' e1
            exact .inr (callGam_root hn1 hn2 rfl (fun _ hf => hf) h.keep.size e3 e4)
          · rename_i he
            refine .inl ⟨fun hp' => ?_, hp⟩
            simp only [rids, List.mem_map] at hp'
            obtain ⟨q, e1, e2⟩ := hp'
            have := lk_some _ (fun x : RC => x) q.1 q.2 (resRoots_nodup (d.getD 0) (c.post x).res 0) e1
            rw [e2, he] at this
            cases this
        · refine resBVs_rep (C' := calleeCtx C w Z) (γ' := γ') (d.getD 0) strict (fun hs b hb => ?_) (c.post x).res 0 ids us hres (fun p r hp => ?_)
          · have hZs : Z = C.zn γ := by simp only [Z, hs, if_true]
            have hnew : w.heap.size ≤ b → C.zn (callGam γ γ' l w.heap.size) b := fun h1 => by
              refine ⟨.inr (.inl (Nat.le_trans h.keep.size h1)), ?_⟩
              simp only [callGam]
              rw [if_pos h1, hb.2]
              rfl
            rcases hb.1 with h1 | h1 | h1
            · have h1' : Z b := h1
              rw [hZs] at h1'
              rcases Nat.lt_or_ge b w.heap.size with hlt | hge
              · exact ⟨h1'.1, by rw [hsame b hlt]; exact h1'.2⟩
              · exact hnew hge
            · exact hnew h1
            · exact h1.elim
          · have := (invP_mem hn1).2 hp
            simp only [Gam.hd, callGam, this]

/-- A call of a function value that was handed in. -/
theorem callV_sound (h : Rel C γ s a w) {as : List Sh} {r : Sh} {q : TupT as → Prop} {p : TupT as → r.T} {v : Value} (hv : bvRep C γ w (.fnv as r q p) v) (svs : List SV) (vs : List Value) (hl : svs.length = vs.length)
    (hr : ∀ (i : Nat) (sv : SV) (v : Value), svs[i]? = some sv → vs[i]? = some v → svRep C γ w sv v) (hok : (callV s svs as r q p).1) :
    ∃ f caps, v = .func (.func f) #[] caps ∧ Callable C.P f ∧ Calls C.P f (vs.toArray ++ caps) w (fun e w' => ∃ v γ2, e = .returned v ∧ Rel C γ2 (callV s svs as r q p).2.1 a w' ∧ svRep C γ2 w' (callV s svs as r q p).2.2 v) := by
  obtain ⟨f, caps, h1, h2, h3⟩ := hv
  unfold callV at hok ⊢
  split at hok
  · rename_i x hx
    refine ⟨f, caps, h1, h2, ?_⟩
    let strict := svs.all strictSV
    let Z : Nat → Prop := if strict = true then C.zn γ else fun _ => True
    have hZ : (∀ g, Z g) ∨ (svs.all strictSV = true ∧ ∀ g, C.zn γ g → Z g) := by
      by_cases hs : strict = true
      · right
        exact ⟨hs, fun g hg => by simp only [Z, hs, if_true]; exact hg⟩
      · left
        intro g
        simp only [Z, hs]
        trivial
    refine (h3 w Z x vs h.keep hok (viewSVs_rep h as svs vs x hx hl hr hZ)).mono fun e w' hx => ?_
    obtain ⟨u, rfl, hu, hk⟩ := hx
    refine ⟨u, γ, rfl, h.world hk, ?_⟩
    show svRep C γ w' (.one (if (svs.all strictSV || r.flat) = true then .val r (p x) else .any)) u
    split
    · rename_i hs
      simp only [Bool.or_eq_true] at hs
      rcases hs with hs | hs
      · refine vrep_zone (fun b hb => ?_) hu
        have hZs : Z = C.zn γ := by simp only [Z, strict, hs, if_true]
        rcases hb with hb | hb
        · rw [hZs] at hb; exact hb
        · refine ⟨.inr (.inl (Nat.le_trans h.keep.size hb)), ?_⟩
          cases ho : γ.own b with
          | none => rfl
          | some l => have := h.ownlt b l ho; omega
      · exact vrep_flat hs hu
    · trivial
  · exact hok.elim
end
end Go.VS
