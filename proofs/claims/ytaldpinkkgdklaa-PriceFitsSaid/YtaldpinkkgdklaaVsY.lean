/- Value semantics, part Y: a call that changes owned slices or tables of the caller in place. Over any program; no condition. -/
import Derived.Test.YtaldpinkkgdklaaVsO
namespace Go.VS
open Go.RowKit
set_option linter.unusedSimpArgs false
set_option linter.unusedVariables false

def hasLend : List AD → Bool
  | [] => false
  | .lend :: _ => true
  | .dat _ :: as => hasLend as
  | .ptr _ :: as => hasLend as
  | .fnc _ _ :: as => hasLend as
  | .pfn _ _ :: as => hasLend as

/-- The roots that are lent, in order. -/
def lendIds : List AD → List SV → List Nat
  | .lend :: as, .one (.ref r) :: vs => r :: lendIds as vs
  | .lend :: as, _ :: vs => lendIds as vs
  | .dat _ :: as, _ :: vs => lendIds as vs
  | .ptr _ :: as, _ :: vs => lendIds as vs
  | .fnc _ _ :: as, _ :: vs => lendIds as vs
  | .pfn _ _ :: as, _ :: vs => lendIds as vs
  | [], _ => []
  | _ :: _, [] => []

def offR (R : List Nat) : SV → Bool
  | .one b => !((names b).any fun r => R.elem r)
  | _ => true

def whole : RC → Bool
  | .hole .. => false
  | _ => true

def lentRC (s : AS) (r : Nat) : Option RC := match s.roots r with
  | some rc => if whole rc then some rc else none
  | none => none

/-- What a closure captured has no part in what is lent. -/
def offCaps (s : AS) (R : List Nat) : List Nat → Bool
  | [] => true
  | b :: bs => (match s.boxes b with
    | some v => offR R v
    | none => false) && offCaps s R bs

def offFn (s : AS) (R : List Nat) : SV → Bool
  | .one (.fn _ caps) => offCaps s R caps
  | _ => true

def viewL (E : Know) (s : AS) (R : List Nat) : (d : AD) → SV → Option d.T
  | .dat sh, v => if offR R v then viewSV s sh v else none
  | .lend, .one (.ref r) => lentRC s r
  | .fnc as r, v => if offFn s R v then viewFn E s as r v else none
  | _, _ => none

def viewLs (E : Know) (s : AS) (R : List Nat) : (as : List AD) → List SV → Option (TupA as)
  | [], [] => some ()
  | a :: as, v :: vs => match viewL E s R a v, viewLs E s R as vs with
    | some x, some y => some (x, y)
    | _, _ => none
  | _, _ => none

/-- No argument hands on what the caller may not show. -/
def strictL : List AD → List SV → Bool
  | .dat _ :: as, v :: vs => strictSV v && strictL as vs
  | .lend :: as, _ :: vs => strictL as vs
  | .fnc _ _ :: as, _ :: vs => strictL as vs
  | .ptr _ :: _, _ => false
  | .pfn _ _ :: _, _ => false
  | _, _ => true

def AS.dropR (s : AS) (R : List Nat) : AS := { s with roots := fun r => if R.elem r then none else s.roots r }
theorem dropR_env (s : AS) (R : List Nat) : (s.dropR R).env = s.env := rfl
theorem dropR_boxes (s : AS) (R : List Nat) : (s.dropR R).boxes = s.boxes := rfl
theorem dropR_roots (s : AS) (R : List Nat) (r : Nat) : (s.dropR R).roots r = if R.elem r then none else s.roots r := rfl

def killL (rids R : List Nat) (b : BV) : BV := if (names b).any (fun r => rids.elem r) then .any else match b with
  | .refi q _ => if R.elem q then .any else b
  | .adri q _ _ _ => if R.elem q then .any else b
  | b => b

def callL (E : Know) (nl : Nat) (s : AS) (dst : Option Tmp) (c : Con) (svs : List SV) : Prop × AS × SV :=
  match viewLs E s (lendIds c.as svs) c.as svs with
  | some x => (c.pre x ∧ (lendIds c.as svs).Nodup ∧ (∀ p ∈ (c.post x).left, p.1 < (lendIds c.as svs).length) ∧
        (∀ r ∈ lendIds c.as svs, r ∉ (resRoots (dst.getD 0) 0 (c.post x).res).map (·.1)) ∧ (resRoots (dst.getD 0) 0 (c.post x).res = [] ∨ nl ≤ dst.getD 0),
      ((s.map (killL ((resRoots (dst.getD 0) 0 (c.post x).res).map (·.1)) (lendIds c.as svs))).dropR (lendIds c.as svs)).setRoots (resRoots (dst.getD 0) 0 (c.post x).res ++ (c.post x).left.map fun p => ((lendIds c.as svs).getD p.1 0, p.2)),
      packSV (resBVs (dst.getD 0) (strictL c.as svs) 0 (c.post x).res))
  | none => badE s

/-- A call of a function that has a contract: with slices lent, or without. -/
def callF (E : Know) (nl : Nat) (s : AS) (dst : Option Tmp) (f : FuncId) (svs : List SV) : Prop × AS × SV :=
  match E.T f with
  | some c => match hasLend c.as with
    | true => callL E nl s dst c svs
    | false => callE E nl s dst f svs
  | none => badE s

section
variable {C : Ctx} {E : Know} {γ : Gam} {s : AS} {a : Act} {w : World} {f : FuncId} {c : Con}

/-- The places of the callee's roots. -/
def lentP (R : List Nat) : List (Nat × Nat) := (List.range R.length).zip R
def lentGam (γ : Gam) (R : List Nat) : Gam := ⟨fun k => γ.hs (R.getD k 0), fun k => γ.rs (R.getD k 0), fun _ => 0, fun b => (γ.own b).bind (renL (lentP R))⟩
def lentB (γ : Gam) (R : List Nat) (b : Nat) : Bool := ((γ.own b).bind (renL (lentP R))).isSome
def lentCtx (C : Ctx) (γ : Gam) (R : List Nat) (w : World) (Z : Nat → Prop) : Ctx := ⟨C.P, fun b => lentB γ R b = true ∧ (C.w0.heap.size ≤ b ∨ C.L b), w, Z, R.length, fun k => γ.hd (R.getD k 0)⟩

theorem lentP_mem {R : List Nat} {k r : Nat} : (k, r) ∈ lentP R ↔ R[k]? = some r := by
  unfold lentP
  constructor
  · intro h
    obtain ⟨i, hi⟩ := List.mem_iff_getElem?.1 h
    rw [List.getElem?_zip_eq_some] at hi
    obtain ⟨h1, h2⟩ := hi
    have : i = k := by
      rw [List.getElem?_range (by
        have := (List.getElem?_eq_some_iff.1 h2).1
        exact this)] at h1
      simpa using h1
    subst this
    exact h2
  · intro h
    have hk := (List.getElem?_eq_some_iff.1 h).1
    refine List.mem_iff_getElem?.2 ⟨k, ?_⟩
    rw [List.getElem?_zip_eq_some]
    exact ⟨by rw [List.getElem?_range hk], h⟩

theorem lentP_snd (R : List Nat) : (lentP R).map (·.2) = R := zip_snd _ _ (by simp)
theorem lentP_fst (R : List Nat) : (lentP R).map (·.1) = List.range R.length := zip_fst _ _ (by simp)

theorem ren_in {R : List Nat} (hn : R.Nodup) {k r : Nat} (h : R[k]? = some r) : renP (lentP R) r = some k := (renP_mem (by rw [lentP_snd]; exact hn)).2 (lentP_mem.2 h)
theorem ren_off {R : List Nat} (hn : R.Nodup) {r : Nat} (h : r ∉ R) : renP (lentP R) r = none := by
  cases hr : renP (lentP R) r with
  | none => rfl
  | some k =>
    have := (renP_mem (by rw [lentP_snd]; exact hn)).1 hr
    exact absurd (List.mem_of_getElem? (lentP_mem.1 this)) h

theorem off_own {R : List Nat} (hn : R.Nodup) {b : Nat} {l : Loc} (h : γ.own b = some l) (hl : ∀ r, (l = .hd r ∨ ∃ i, l = .row r i) → r ∉ R) : (lentGam γ R).own b = none := by
  simp only [lentGam, h, Option.bind_some]
  cases l with
  | hd r => simp only [renL, ren_off hn (hl r (.inl rfl)), Option.map_none]
  | row r i => simp only [renL, ren_off hn (hl r (.inr ⟨i, rfl⟩)), Option.map_none]
  | bx b => rfl
  | mk d => rfl

theorem lent_zone {R : List Nat} {Z : Nat → Prop} {b : Nat} (hz : Z b) (h : (lentGam γ R).own b = none) : (lentCtx C γ R w Z).zn (lentGam γ R) b := ⟨.inl hz, h⟩

theorem viewSV_off (h : Rel C γ s a w) {R : List Nat} {Z : Nat → Prop} (hn : R.Nodup) {sv : SV} {v : Value} {sh : Sh} {x : sh.T} (hv : svRep C γ w sv v) (hb : viewSV s sh sv = some x) (ho : offR R sv = true) (hZ : (∀ g, Z g) ∨ (strictSV sv = true ∧ ∀ g, C.zn γ g → Z g)) :
    vrep w ((lentCtx C γ R w Z).zn (lentGam γ R)) sh x v := by
  have hz0 : ∀ g, C.zn γ g → (lentCtx C γ R w Z).zn (lentGam γ R) g := fun g hg => lent_zone (hZ.elim (fun h => h g) (fun h => h.2 g hg)) (by simp only [lentGam, hg.2, Option.bind_none])
  unfold viewSV at hb
  split at hb
  · rename_i b
    replace hv : bvRep C γ w b v := hv
    have hoff : ∀ r ∈ names b, r ∉ R := by
      intro r hr hR
      simp only [offR, Bool.not_eq_true', List.any_eq_false] at ho
      exact ho r hr (by simpa using hR)
    unfold viewBV at hb
    split at hb
    · obtain ⟨rfl, rfl⟩ := cast_val hb
      exact vrep_zone hz0 hv
    · split at hb
      · simp only [Option.some.injEq] at hb
        subst hb
        simp only [bvRep] at hv
        exact ⟨[v], ⟨none, 0, by rw [hv]; rfl, Nat.le_refl _, Nat.zero_le _, fun i hi => by simp at hi⟩, rfl⟩
      · cases hb
    · rename_i r
      have hZ : ∀ g, Z g := hZ.elim id (fun h => by simp [strictSV] at h)
      have hr0 : r ∉ R := hoff r (by simp [names])
      have hz : ∀ (u : Value) (l : Loc), (l = .hd r ∨ ∃ i, l = .row r i) → ownB C γ u l → ∀ g, u.ownBlock = some g → (lentCtx C γ R w Z).zn (lentGam γ R) g := fun u l hl ho g hg =>
        lent_zone (hZ g) (off_own hn (ho g hg).1 fun q hq => by
          rcases hl with rfl | ⟨i, rfl⟩ <;> rcases hq with hq | ⟨j, hq⟩ <;> simp at hq <;> (first | (subst hq; exact hr0) | (rw [← hq.1]; exact hr0)))
      simp only [bvRep] at hv
      split at hb
      · rename_i e a' xs hr
        obtain ⟨rfl, rfl⟩ := cast_val hb
        obtain ⟨hf, h1, h2⟩ := h.roots r _ hr
        exact ⟨[v], by rw [hv]; exact frozen_flat hf h1 (hz _ _ (.inl rfl) h2), rfl⟩
      · rename_i e e2 a' xss hr
        obtain ⟨rfl, rfl⟩ := cast_val hb
        obtain ⟨hf, h1, h2, h3⟩ := h.roots r _ hr
        exact ⟨[v], by rw [hv]; exact frozen_deep hf h1 (hz _ _ (.inl rfl) h2) (fun i xs hi => ⟨(h3 i xs hi).1, hz _ _ (.inr ⟨i, rfl⟩) (h3 i xs hi).2⟩), rfl⟩
      · cases hb
    · rename_i r i
      have hZ : ∀ g, Z g := hZ.elim id (fun h => by simp [strictSV] at h)
      have hr0 : r ∉ R := hoff r (by simp [names])
      simp only [bvRep] at hv
      split at hb
      · rename_i e e2 a' xss hr
        split at hb
        · rename_i hi
          obtain ⟨rfl, rfl⟩ := cast_val hb
          obtain ⟨hf, h1, h2, h3⟩ := h.roots r _ hr
          have hgi : xss.getD i [] = xss[i] := by simp [List.getD_eq_getElem?_getD, hi]
          obtain ⟨k1, k2⟩ := h3 i xss[i] (by simp [hi])
          refine ⟨[v], ?_, rfl⟩
          rw [hv]
          show pers w _ (.sl a') (xss.getD i []) [γ.rows r i]
          rw [hgi]
          exact frozen_flat hf k1 (fun g hg => lent_zone (hZ g) (off_own hn (k2 g hg).1 fun q hq => by
            rcases hq with hq | ⟨j, hq⟩ <;> simp at hq
            rw [← hq.1]; exact hr0))
        · cases hb
      · cases hb
    · cases hb
  · cases hb

theorem lent_root (h : Rel C γ s a w) {R : List Nat} (hn : R.Nodup) {k r : Nat} (hk : R[k]? = some r) {Z : Nat → Prop} {rc : RC} (hr : s.roots r = some rc) : rcRep (lentCtx C γ R w Z) (lentGam γ R) w k rc := by
  have hg : R.getD k 0 = r := by rw [List.getD_eq_getElem?_getD, hk]; rfl
  have hhd : (lentGam γ R).hd k = γ.hd r := by simp only [Gam.hd, lentGam, hg]
  have hrow : ∀ i, (lentGam γ R).rows k i = γ.rows r i := fun i => by simp only [Gam.rows, lentGam, hg]
  have hrf : ∀ m, rowsOf (lentGam γ R) k m = rowsOf γ r m := fun m => by simp [rowsOf, hrow]
  have o1 : ∀ v, ownB C γ v (.hd r) → ownB (lentCtx C γ R w Z) (lentGam γ R) v (.hd k) := fun v ho b hb => by
    obtain ⟨e1, e2⟩ := ho b hb
    have e3 : (γ.own b).bind (renL (lentP R)) = some (.hd k) := by rw [e1]; simp only [Option.bind_some, renL, ren_in hn hk, Option.map_some]
    exact ⟨e3, .inr ⟨by simp only [lentB, e3, Option.isSome_some], e2⟩⟩
  have o2 : ∀ v i, ownB C γ v (.row r i) → ownB (lentCtx C γ R w Z) (lentGam γ R) v (.row k i) := fun v i ho b hb => by
    obtain ⟨e1, e2⟩ := ho b hb
    have e3 : (γ.own b).bind (renL (lentP R)) = some (.row k i) := by rw [e1]; simp only [Option.bind_some, renL, ren_in hn hk, Option.map_some]
    exact ⟨e3, .inr ⟨by simp only [lentB, e3, Option.isSome_some], e2⟩⟩
  have h0 := h.roots r rc hr
  cases rc with
  | flat e sh xs => exact ⟨h0.1, by rw [hhd]; exact h0.2.1, by rw [hhd]; exact o1 _ h0.2.2⟩
  | deep e e2 sh xss => exact ⟨h0.1, by rw [hhd, hrf]; exact h0.2.1, by rw [hhd]; exact o1 _ h0.2.2.1, fun i xs hi => by
      have h4 := h0.2.2.2 i xs hi
      unfold rowRep at *
      rw [hrow]
      exact ⟨h4.1, o2 _ i h4.2⟩⟩
  | hole e e2 sh xss m => exact ⟨h0.1, by rw [hhd, hrf]; exact h0.2.1, by rw [hhd]; exact o1 _ h0.2.2.1, fun i xs hne hi => by
      have h4 := h0.2.2.2 i xs hne hi
      unfold rowRep at *
      rw [hrow]
      exact ⟨h4.1, o2 _ i h4.2⟩⟩

theorem viewCaps_off (h : Rel C γ s a w) {R : List Nat} (hn : R.Nodup) : ∀ (as : List Sh) (ids : List Nat) (y : TupT as), offCaps s R ids = true → viewCaps s as ids = some y →
    ptrsRep w ((lentCtx C γ R w fun _ => True).zn (lentGam γ R)) as y (ids.map fun b => Value.pointer (some ⟨γ.bx b, 0, none⟩))
  | [], [], _, _, _ => rfl
  | [], _ :: _, _, _, hb => by simp [viewCaps] at hb
  | _ :: _, [], _, _, hb => by simp [viewCaps] at hb
  | sh :: as, b :: bs, y, ho, hb => by
    simp only [viewCaps] at hb
    simp only [offCaps, Bool.and_eq_true] at ho
    split at hb
    · rename_i x1 x2 h1 h2
      simp only [Option.some.injEq] at hb
      subst hb
      refine ⟨_, _, rfl, ?_, viewCaps_off h hn as bs x2 ho.2 h2⟩
      simp only [viewPtr] at h1
      split at h1
      · rename_i bv hbx
        obtain ⟨cs, t, d1, ⟨v', d2, d2'⟩, d3, d4, d5⟩ := h.boxes b _ hbx
        have ho1 : offR R (.one bv) = true := by simpa [hbx] using ho.1
        obtain ⟨cs', k1, k2⟩ := viewSV_off (Z := fun _ => True) (sv := .one bv) h hn d2 h1 ho1 (.inl fun _ => trivial)
        refine ⟨γ.bx b, 0, cs', rfl, lent_zone trivial (by simp only [lentGam, d4, Option.bind_some, renL]), h.ownlt _ _ d4, k1, fun j c hj => ?_⟩
        rw [Nat.zero_add, cell_of_row w _ j cs t (0, 0) d1]
        rw [k2, pack_cells sh x1 cs' k1] at d2'
        rw [← d2'] at hj
        simpa using hj
      · cases h1
    · cases hb

theorem ptrsRep_keep {w' : World} {Z L : Nat → Prop} (k : Keep L w w') (hZ : ∀ b, Z b → ¬ L b) : ∀ (as : List Sh) (y : TupT as) (ps : List Value), ptrsRep w Z as y ps → ptrsRep w' Z as y ps
  | [], _, _, h => h
  | sh :: as, y, ps, h => by
    obtain ⟨v, vs, rfl, ⟨b, off, cs, h1, h2, h3, h4, h5⟩, h6⟩ := h
    have hb : w'.heap[b]? = w.heap[b]? := k.block b h3 (hZ b h2)
    refine ⟨v, vs, rfl, ⟨b, off, cs, h1, h2, Nat.lt_of_lt_of_le h3 k.size, pers_mono k.size (fun g hg hz => ⟨hz, k.block g hg (hZ g hz)⟩) sh _ cs h4, fun j c hj => ?_⟩, ptrsRep_keep k hZ as y.2 vs h6⟩
    rw [World.cell?_of_block (w := w) (w' := w') (a := ⟨b, off + j, none⟩) hb]
    exact h5 j c hj

theorem ptrsRep_zone {Z Z' : Nat → Prop} (h : ∀ b, Z b → Z' b) : ∀ (as : List Sh) (y : TupT as) (ps : List Value), ptrsRep w Z as y ps → ptrsRep w Z' as y ps
  | [], _, _, hv => hv
  | _ :: as, y, ps, hv => by
    obtain ⟨v, vs', rfl, ⟨b, off, cs, h1, h2, h3, h4, h5⟩, h6⟩ := hv
    exact ⟨v, vs', rfl, ⟨b, off, cs, h1, h b h2, h3, pers_mono (Nat.le_refl _) (fun b _ hz => ⟨h b hz, rfl⟩) _ _ cs h4, h5⟩, ptrsRep_zone h as y.2 vs' h6⟩

theorem viewFn_off (hE : KnowOK C.P E) (h : Rel C γ s a w) {R : List Nat} {Z : Nat → Prop} (hn : R.Nodup) {as : List Sh} {r : Sh} {sv : SV} {v : Value} {f : (TupT as → Prop) × (TupT as → r.T)} (hv : svRep C γ w sv v) (ho : offFn s R sv = true) (hb : viewFn E s as r sv = some f) :
    FnOK C.P (lentCtx C γ R w Z).L w as r f.1 f.2 v := by
  unfold viewFn at hb
  split at hb
  · obtain ⟨rfl, rfl, rfl⟩ := cast_fn hb
    obtain ⟨g, caps, h1, h2, h3⟩ := hv
    exact ⟨g, caps, h1, h2, fun w1 Z x vs hk => h3 w1 Z x vs (h.keep.step hk (fun b hM hb => hM.2.resolve_left (by omega)))⟩
  · rename_i g caps
    split at hb
    · rename_i c hc
      split at hb
      · rename_i hflat
        split at hb
        · rename_i y hy
          obtain ⟨e1, e2, e3⟩ := cast_fn hb
          subst e1
          subst e2
          simp only at e3
          subst e3
          have hs := hE.clo g c hc
          simp only [svRep, bvRep] at hv
          refine ⟨g, _, hv, hs.callable, fun w1 Z1 x vs hk hq hargs => ?_⟩
          have hps := viewCaps_off h hn c.caps caps y ho hy
          have hps2 := ptrsRep_zone (Z' := fun _ => True) (fun _ _ => trivial) _ _ _ (ptrsRep_keep hk (fun b hb hL => by
            have h1 := hb.2
            have h2 := hL.1
            simp only [lentGam] at h1
            simp only [lentB, h1, Option.isSome_none] at h2
            cases h2) _ _ _ hps)
          have := hs.run w1 (fun _ => True) y x _ vs hq hps2 (argsRep_zone (fun _ _ => trivial) _ _ _ hargs)
          have e : (vs ++ caps.map fun b => Value.pointer (some ⟨γ.bx b, 0, none⟩)).toArray = vs.toArray ++ (caps.map fun b => Value.pointer (some ⟨γ.bx b, 0, none⟩)).toArray := by simp
          rw [← e]
          refine this.mono fun e w2 hx => ?_
          obtain ⟨u, h1, h2, h3⟩ := hx
          exact ⟨u, h1, vrep_flat hflat h2, h3⟩
        · cases hb
      · cases hb
    · cases hb
  · cases hb

theorem viewLs_rep (hE : KnowOK C.P E) (h : Rel C γ s a w) {R : List Nat} {Z : Nat → Prop} (hn : R.Nodup) : ∀ (as : List AD) (svs : List SV) (vs : List Value) (x : TupA as) (k : Nat), lendIds as svs = R.drop k → viewLs E s R as svs = some x → svs.length = vs.length →
    (∀ (i : Nat) (sv : SV) (v : Value), svs[i]? = some sv → vs[i]? = some v → svRep C γ w sv v) → ((∀ g, Z g) ∨ (strictL as svs = true ∧ ∀ g, C.zn γ g → Z g)) →
    bvsRep (lentCtx C γ R w Z) (lentGam γ R) w (paramBVs k as x) vs ∧ (∀ p ∈ paramRoots k as x, rcRep (lentCtx C γ R w Z) (lentGam γ R) w p.1 p.2) ∧ lends as = (lendIds as svs).length
  | [], [], [], _, _, _, _, _, _, _ => ⟨rfl, fun p hp => by simp [paramRoots] at hp, rfl⟩
  | [], [], _ :: _, _, _, _, _, hl, _, _ => by simp at hl
  | [], _ :: _, _, _, _, _, hb, _, _, _ => by simp [viewLs] at hb
  | _ :: _, [], _, _, _, _, hb, _, _, _ => by simp [viewLs] at hb
  | _ :: _, _ :: _, [], _, _, _, _, hl, _, _ => by simp at hl
  | d :: as, sv :: svs, v :: vs, x, k, hR, hb, hl, hr, hZ => by
    simp only [viewLs] at hb
    split at hb
    · rename_i x1 x2 h1 h2
      simp only [Option.some.injEq] at hb
      subst hb
      have hv := hr 0 sv v rfl rfl
      have hrec := fun k' hk' hz' => viewLs_rep hE h (Z := Z) hn as svs vs x2 k' hk' h2 (by simpa using hl) (fun i sv' v' e1 e2 => hr (i + 1) sv' v' (by simpa using e1) (by simpa using e2)) hz'
      cases d with
      | dat sh =>
        simp only [viewL] at h1
        split at h1
        · rename_i ho
          have hR' : lendIds as svs = R.drop k := by simpa [lendIds] using hR
          obtain ⟨k1, k2, k3⟩ := hrec k hR' (hZ.imp id fun hz => ⟨by have := hz.1; simp only [strictL, Bool.and_eq_true] at this; exact this.2, hz.2⟩)
          exact ⟨⟨v, vs, rfl, viewSV_off h hn hv h1 ho (hZ.imp id fun hz => ⟨by have := hz.1; simp only [strictL, Bool.and_eq_true] at this; exact this.1, hz.2⟩), k1⟩, k2, by simpa [lends, lendIds] using k3⟩
        · cases h1
      | lend =>
        obtain ⟨r, rfl, h1'⟩ : ∃ r, sv = .one (.ref r) ∧ lentRC s r = some x1 := by
          rcases sv with b | b | b <;> first | (cases b <;> first | exact ⟨_, rfl, h1⟩ | (exact absurd h1 (by simp [viewL]))) | (exact absurd h1 (by simp [viewL]))
        · skip
          have hR' : r :: lendIds as svs = R.drop k := by simpa [lendIds] using hR
          have hk : R[k]? = some r := by
            have := congrArg (fun l => l[0]?) hR'
            simpa using this.symm
          have hR2 : lendIds as svs = R.drop (k + 1) := by
            have := congrArg List.tail hR'
            simpa using this
          obtain ⟨k1, k2, k3⟩ := hrec (k + 1) hR2 (hZ.imp id fun hz => ⟨by simpa only [strictL] using hz.1, hz.2⟩)
          have hroot : s.roots r = some x1 := by
            unfold lentRC at h1'
            split at h1'
            · rename_i rc hrc
              split at h1'
              · rw [hrc]; exact h1'
              · cases h1'
            · cases h1'
          refine ⟨⟨v, vs, rfl, ?_, k1⟩, fun p hp => ?_, by simp only [lends, lendIds, List.length_cons]; rw [k3]⟩
          · have hv' : v = γ.hd r := hv
            have hg : R.getD k 0 = r := by rw [List.getD_eq_getElem?_getD, hk]; rfl
            show v = (lentGam γ R).hd k
            rw [hv']
            simp only [Gam.hd, lentGam, hg]
          · rcases List.mem_cons.1 hp with rfl | hp
            · exact lent_root h hn hk hroot
            · exact k2 p hp
      | ptr sh => simp [viewL] at h1
      | fnc l r =>
        simp only [viewL] at h1
        split at h1
        · rename_i ho
          have hR' : lendIds as svs = R.drop k := by simpa [lendIds] using hR
          obtain ⟨k1, k2, k3⟩ := hrec k hR' (hZ.imp id fun hz => ⟨by simpa only [strictL] using hz.1, hz.2⟩)
          exact ⟨⟨v, vs, rfl, viewFn_off hE h hn hv ho h1, k1⟩, k2, by simpa [lends, lendIds] using k3⟩
        · cases h1
      | pfn l r => simp [viewL] at h1
    · cases hb

theorem lent_args (hE : KnowOK C.P E) (h : Rel C γ s a w) {Z : Nat → Prop} {as : List AD} {svs : List SV} {vs : List Value} {x : TupA as} (hn : (lendIds as svs).Nodup) (hv : viewLs E s (lendIds as svs) as svs = some x) (hl : svs.length = vs.length)
    (hr : ∀ (i : Nat) (sv : SV) (v : Value), svs[i]? = some sv → vs[i]? = some v → svRep C γ w sv v) (hZ : (∀ g, Z g) ∨ (strictL as svs = true ∧ ∀ g, C.zn γ g → Z g)) :
    Entry (lentCtx C γ (lendIds as svs) w Z) (lentGam γ (lendIds as svs)) C.P as x vs := by
  obtain ⟨k1, k2, k3⟩ := viewLs_rep hE h hn as svs vs x 0 rfl hv hl hr hZ
  refine ⟨rfl, k3.symm, fun r _ => rfl, fun k l hk => ?_, k1, k2⟩
  simp only [lentGam] at hk
  cases ho : γ.own k with
  | none => rw [ho] at hk; simp at hk
  | some l' => exact h.ownlt k l' ho

def lendGam (γ γ' : Gam) (R : List Nat) (l : List (Nat × Nat)) (n : Nat) : Gam :=
  ⟨fun p => match invP l p with | some r => γ'.hs r | none => γ.hs p, fun p => match invP l p with | some r => γ'.rs r | none => γ.rs p, γ.bx, fun b => if n ≤ b ∨ lentB γ R b = true then (γ'.own b).bind (renL l) else γ.own b⟩

theorem lendGam_root {γ' : Gam} {w' : World} {Z : Nat → Prop} {R : List Nat} {l : List (Nat × Nat)} (h1 : (l.map (·.1)).Nodup) (h2 : (l.map (·.2)).Nodup) (hk : C.w0.heap.size ≤ w.heap.size) {p r : Nat} (hm : (p, r) ∈ l) {rc : RC} (h : rcRep (lentCtx C γ R w Z) γ' w' r rc) :
    rcRep C (lendGam γ γ' R l w.heap.size) w' p rc := by
  have hi := (invP_mem h1).2 hm
  have hr := (renP_mem h2).2 hm
  have hhd : (lendGam γ γ' R l w.heap.size).hd p = γ'.hd r := by simp [Gam.hd, lendGam, hi]
  have hrow : ∀ i, (lendGam γ γ' R l w.heap.size).rows p i = γ'.rows r i := fun i => by simp [Gam.rows, lendGam, hi]
  have hrf : ∀ m, rowsOf (lendGam γ γ' R l w.heap.size) p m = rowsOf γ' r m := fun m => by simp [rowsOf, hrow]
  have hB : ∀ k, (w.heap.size ≤ k ∨ (lentB γ R k = true ∧ (C.w0.heap.size ≤ k ∨ C.L k))) → (w.heap.size ≤ k ∨ lentB γ R k = true) ∧ (C.w0.heap.size ≤ k ∨ C.L k) := fun k e => by
    rcases e with e | e
    · exact ⟨.inl e, .inl (Nat.le_trans hk e)⟩
    · exact ⟨.inr e.1, e.2⟩
  have ho1 : ∀ v, ownB (lentCtx C γ R w Z) γ' v (.hd r) → ownB C (lendGam γ γ' R l w.heap.size) v (.hd p) := by
    intro v ho k hv
    obtain ⟨e1, e2⟩ := ho k hv
    obtain ⟨e3, e4⟩ := hB k e2
    exact ⟨by simp [lendGam, e3, e1, renL, hr], e4⟩
  have ho2 : ∀ v i, ownB (lentCtx C γ R w Z) γ' v (.row r i) → ownB C (lendGam γ γ' R l w.heap.size) v (.row p i) := by
    intro v i ho k hv
    obtain ⟨e1, e2⟩ := ho k hv
    obtain ⟨e3, e4⟩ := hB k e2
    exact ⟨by simp [lendGam, e3, e1, renL, hr], e4⟩
  cases rc with
  | flat e sh xs => exact ⟨h.1, by rw [hhd]; exact h.2.1, by rw [hhd]; exact ho1 _ h.2.2⟩
  | deep e e2 sh xss => exact ⟨h.1, by rw [hhd, hrf]; exact h.2.1, by rw [hhd]; exact ho1 _ h.2.2.1, fun i xs hx => by
      have h4 := h.2.2.2 i xs hx
      unfold rowRep at *
      rw [hrow]
      exact ⟨h4.1, ho2 _ i h4.2⟩⟩
  | hole e e2 sh xss k => exact ⟨h.1, by rw [hhd, hrf]; exact h.2.1, by rw [hhd]; exact ho1 _ h.2.2.1, fun i xs hne hx => by
      have h4 := h.2.2.2 i xs hne hx
      unfold rowRep at *
      rw [hrow]
      exact ⟨h4.1, ho2 _ i h4.2⟩⟩

theorem nodup_map_on {f : Nat → Nat} : ∀ {l : List Nat}, (∀ a ∈ l, ∀ b ∈ l, f a = f b → a = b) → l.Nodup → (l.map f).Nodup
  | [], _, _ => by simp
  | x :: l, hf, h => by
    simp only [List.nodup_cons] at h
    simp only [List.map_cons, List.nodup_cons]
    refine ⟨fun hm => ?_, nodup_map_on (fun a ha b hb => hf a (List.mem_cons_of_mem _ ha) b (List.mem_cons_of_mem _ hb)) h.2⟩
    obtain ⟨y, hy, e⟩ := List.mem_map.1 hm
    have := hf y (List.mem_cons_of_mem _ hy) x (List.mem_cons_self ..) e
    exact h.1 (this ▸ hy)

theorem lent_loc {R : List Nat} (hn : R.Nodup) {b : Nat} {l : Loc} (h : γ.own b = some l) (hb : lentB γ R b = true) : ∃ r, l.root = some r ∧ r ∈ R := by
  by_cases hl : ∃ r, (l = .hd r ∨ ∃ i, l = .row r i) ∧ r ∈ R
  · obtain ⟨r, h1, h2⟩ := hl
    rcases h1 with rfl | ⟨i, rfl⟩ <;> exact ⟨r, rfl, h2⟩
  · exfalso
    have := off_own hn h (fun r h1 h2 => hl ⟨r, h1, h2⟩)
    simp only [lentGam] at this
    simp only [lentB, this, Option.isSome_none] at hb
    cases hb

theorem killL_forgets {γ2 : Gam} {l R : List Nat} (hh : ∀ p, p ∉ l → γ2.hd p = γ.hd p) (hr : ∀ p i, p ∉ l → p ∉ R → γ2.rows p i = γ.rows p i) (hb : ∀ x, γ2.bx x = γ.bx x) : Forgets (killL l R) γ γ2 := by
  intro b
  unfold killL
  split
  · exact .inl rfl
  · rename_i hn
    have hn' : ∀ r ∈ names b, r ∉ l := by
      intro r hr' hl
      exact hn (List.any_eq_true.2 ⟨r, hr', by simpa using hl⟩)
    cases b with
    | refi q i =>
      simp only
      split
      · exact .inl rfl
      · rename_i hq
        exact .inr ⟨rfl, hr _ _ (hn' _ (List.mem_singleton.2 rfl)) (by simpa using hq)⟩
    | adri q i j sz =>
      simp only
      split
      · exact .inl rfl
      · rename_i hq
        exact .inr ⟨rfl, hr _ _ (hn' _ (List.mem_singleton.2 rfl)) (by simpa using hq)⟩
    | _ =>
      right
      refine ⟨rfl, ?_⟩
      first
        | trivial
        | (exact hb _)
        | (exact fun x _ => hb x)
        | (exact hh _ (hn' _ (List.mem_singleton.2 rfl)))

/-- **A call that lends.** -/
theorem callL_sound (hE : KnowOK C.P E) (hspec : FnSpec C.P f c) (h : Rel C γ s a w) (d : Option Tmp) (svs : List SV) (vs : List Value) (hl : svs.length = vs.length)
    (hr : ∀ (i : Nat) (sv : SV) (v : Value), svs[i]? = some sv → vs[i]? = some v → svRep C γ w sv v) (hok : (callL E C.nl s d c svs).1) :
    Callable C.P f ∧ Calls C.P f vs.toArray w (fun e w' => ∃ v γ2, e = .returned v ∧ Rel C γ2 (callL E C.nl s d c svs).2.1 a w' ∧ svRep C γ2 w' (callL E C.nl s d c svs).2.2 v) := by
  unfold callL at hok ⊢
  generalize hRd : lendIds c.as svs = R at hok ⊢
  cases hv : viewLs E s R c.as svs with
  | none => rw [hv] at hok; exact hok.elim
  | some x =>
    rw [hv] at hok
    simp only at hok ⊢
    obtain ⟨hpre, hnR, hleft, hdis, hnl⟩ := hok
    refine ⟨hspec.callable, ?_⟩
    let Z : Nat → Prop := if strictL c.as svs = true then C.zn γ else fun _ => True
    have hZ : (∀ g, Z g) ∨ (strictL c.as svs = true ∧ ∀ g, C.zn γ g → Z g) := by
      by_cases hs : strictL c.as svs = true
      · right
        exact ⟨hs, fun g hg => by simp only [Z, hs, if_true]; exact hg⟩
      · left
        intro g
        simp only [Z, hs]
        trivial
    have hent := lent_args hE h (Z := Z) (by rw [hRd]; exact hnR) (by rw [hRd]; exact hv) hl hr hZ
    rw [hRd] at hent
    refine (hspec.run _ _ x vs hpre hent).mono fun e w' hx => ?_
    obtain ⟨v, γ', rfl, ⟨⟨ids, us, rfl, hres, hnd⟩, hlf, holt⟩, hkeep⟩ := hx
    have hkeep' : Keep (fun b => lentB γ R b = true ∧ (C.w0.heap.size ≤ b ∨ C.L b)) w w' := hkeep
    have hlen := resRep_len (d.getD 0) (c.post x).res 0 ids us hres
    generalize hrd : (resRoots (d.getD 0) 0 (c.post x).res).map (·.1) = rids at hdis ⊢
    have hll : rids.length = ids.length := by rw [← hrd, List.length_map]; exact hlen.symm
    have hl1 : (rids.zip ids ++ ((c.post x).left.map fun p => (R.getD p.1 0, p.1))).map (·.1) = rids ++ (c.post x).left.map fun p => R.getD p.1 0 := by rw [List.map_append, zip_fst _ _ hll, List.map_map]; rfl
    have hl2 : (rids.zip ids ++ ((c.post x).left.map fun p => (R.getD p.1 0, p.1))).map (·.2) = ids ++ (c.post x).left.map (·.1) := by rw [List.map_append, zip_snd _ _ hll, List.map_map]; rfl
    generalize hle : rids.zip ids ++ ((c.post x).left.map fun p => (R.getD p.1 0, p.1)) = l at hl1 hl2
    have hgm : ∀ k, k < R.length → R[k]? = some (R.getD k 0) := fun k hk => by rw [List.getD_eq_getElem?_getD, List.getElem?_eq_getElem hk]; rfl
    have hgR : ∀ p ∈ (c.post x).left, R.getD p.1 0 ∈ R := fun p hp => List.mem_of_getElem? (hgm p.1 (hleft p hp))
    have hlR : ∀ q ∈ (c.post x).left.map (fun p => R.getD p.1 0), q ∈ R := fun q hq => by
      obtain ⟨p, hp, rfl⟩ := List.mem_map.1 hq
      exact hgR p hp
    have hnL : ((c.post x).left.map fun p => R.getD p.1 0).Nodup := by
      have h0 := (List.nodup_append.1 hnd).2.1
      have e : (c.post x).left.map (fun p => R.getD p.1 0) = ((c.post x).left.map (·.1)).map (fun k => R.getD k 0) := by rw [List.map_map]; rfl
      rw [e]
      refine nodup_map_on (fun a ha b hb e => ?_) h0
      obtain ⟨p, hp, rfl⟩ := List.mem_map.1 ha
      obtain ⟨q, hq, rfl⟩ := List.mem_map.1 hb
      have h1 := hgm _ (hleft p hp)
      have h2 := hgm _ (hleft q hq)
      rw [e, ← h2] at h1
      exact (List.getElem?_inj (hleft p hp) hnR).1 h1
    have hn1 : (l.map (·.1)).Nodup := by
      rw [hl1]
      refine List.nodup_append.2 ⟨by rw [← hrd]; exact resRoots_nodup _ _ _, hnL, fun p hp q hq e => ?_⟩
      subst e
      exact hdis p (hlR p hq) hp
    have hn2 : (l.map (·.2)).Nodup := by rw [hl2]; exact hnd
    have hridge : ∀ p ∈ rids, C.nl ≤ p := by
      intro p hp
      rcases hnl with hnl | hnl
      · rw [← hrd, hnl] at hp
        simp at hp
      · rw [← hrd] at hp
        obtain ⟨k, _, h2⟩ := resRoots_rid _ _ _ p hp
        rw [h2]; unfold rid; omega
    have hinv' : ∀ p, p ∉ rids → p ∉ R → invP l p = none := fun p hp hp2 => by
      cases hi : invP l p with
      | none => rfl
      | some r =>
        have := (invP_mem hn1).1 hi
        have h3 : p ∈ l.map (·.1) := List.mem_map.2 ⟨_, this, rfl⟩
        rw [hl1] at h3
        rcases List.mem_append.1 h3 with h3 | h3
        · exact absurd h3 hp
        · exact absurd (hlR p h3) hp2
    have hRk : ∀ p ∈ (c.post x).left, (R.getD p.1 0, p.1) ∈ l := fun p hp => by
      rw [← hle]
      exact List.mem_append.2 (.inr (List.mem_map.2 ⟨p, hp, rfl⟩))
    have hhdR : ∀ p, p ∉ rids → (lendGam γ γ' R l w.heap.size).hd p = γ.hd p := fun p hp => by
      cases hi : invP l p with
      | none => simp only [Gam.hd, lendGam, hi]
      | some k =>
        have h1 := (invP_mem hn1).1 hi
        rw [← hle] at h1
        rcases List.mem_append.1 h1 with h1 | h1
        · exact absurd (by rw [← zip_fst rids ids hll]; exact List.mem_map.2 ⟨_, h1, rfl⟩) hp
        · obtain ⟨q, hq, e⟩ := List.mem_map.1 h1
          simp only [Prod.mk.injEq] at e
          have h3 := (hlf q hq).2
          have h3' : γ'.hd q.1 = γ.hd (R.getD q.1 0) := h3
          rw [e.1, e.2] at h3'
          rw [← h3']
          simp only [Gam.hd, lendGam, hi]
    have hsame : ∀ b, b < w.heap.size → lentB γ R b ≠ true → (lendGam γ γ' R l w.heap.size).own b = γ.own b := fun b hb hb2 => by
      simp only [lendGam]
      rw [if_neg (by rintro (e | e); exact absurd e (by omega); exact hb2 e)]
    have hblk : ∀ b, b < w.heap.size → lentB γ R b ≠ true → w'.heap[b]? = w.heap[b]? := fun b hb hb2 => hkeep'.block b hb (fun e => hb2 e.1)
    have hnone : ∀ b, γ.own b = none → lentB γ R b ≠ true := fun b hb => by simp [lentB, hb]
    have m : Move C γ w (lendGam γ γ' R l w.heap.size) w' (fun p => p ∈ rids ∨ p ∈ R) := by
      refine ⟨⟨hkeep'.size, fun b hb hz => ⟨⟨hz.1, by rw [hsame b hb (hnone b hz.2)]; exact hz.2⟩, hblk b hb (hnone b hz.2)⟩, fun b d hb ho => ?_⟩, h.keep.step hkeep' (fun b hM hb => hM.2.resolve_left (by omega)), fun k lo hk => ?_, fun r hr => ?_, fun p hp => ?_, fun p i hp => ?_, fun _ => rfl, fun b lo hb hlo => ?_⟩
      · have : lentB γ R b ≠ true := by simp [lentB, ho, renL]
        exact ⟨by rw [hsame b hb this]; exact ho, hblk b hb this⟩
      · simp only [lendGam] at hk
        split at hk
        · cases ho : γ'.own k with
          | none => rw [ho] at hk; simp at hk
          | some l' => exact holt k l' ho
        · exact Nat.lt_of_lt_of_le (h.ownlt k lo hk) hkeep'.size
      · rw [hhdR r (fun hp => by have := hridge r hp; omega)]
        exact h.lent r hr
      · exact hhdR p (fun e => hp (.inl e))
      · simp only [Gam.rows, lendGam, hinv' p (fun e => hp (.inl e)) (fun e => hp (.inr e))]
      · have : lentB γ R b ≠ true := fun e => by
          obtain ⟨r, e1, e2⟩ := lent_loc hnR hb e
          exact hlo r e1 (.inr e2)
        exact ⟨by rw [hsame b (h.ownlt b lo hb) this]; exact hb, hblk b (h.ownlt b lo hb) this⟩
    have hzn : strictL c.as svs = true → ∀ b, (lentCtx C γ R w Z).zn γ' b → C.zn (lendGam γ γ' R l w.heap.size) b := fun hs b hb => by
      have hZs : Z = C.zn γ := by simp only [Z, hs, if_true]
      have hyes : w.heap.size ≤ b ∨ lentB γ R b = true → (lendGam γ γ' R l w.heap.size).own b = none := fun e => by
        simp only [lendGam]
        rw [if_pos e, hb.2]
        rfl
      rcases hb.1 with h1 | h1 | h1
      · have h1' : Z b := h1
        rw [hZs] at h1'
        rcases Nat.lt_or_ge b w.heap.size with hlt | hge
        · exact ⟨h1'.1, by rw [hsame b hlt (hnone b h1'.2)]; exact h1'.2⟩
        · exact ⟨h1'.1, hyes (.inl hge)⟩
      · have h1' : w.heap.size ≤ b := h1
        exact ⟨.inr (.inl (Nat.le_trans h.keep.size h1')), hyes (.inl h1')⟩
      · have h1' : lentB γ R b = true ∧ (C.w0.heap.size ≤ b ∨ C.L b) := h1
        exact ⟨.inr h1'.2, hyes (.inr h1'.1)⟩
    refine ⟨_, lendGam γ γ' R l w.heap.size, rfl, ?_, packSV_rep _ _ ?_⟩
    · refine m.rel h (K := killL rids R) (killL_forgets hhdR (fun p i hp hp2 => m.rows p i (fun e => e.elim hp hp2)) m.bx) (roots' := (((s.map (killL rids R)).dropR R).setRoots _).roots) (fun p rc hp => ?_)
      have hfst : ((c.post x).left.map fun p => (R.getD p.1 0, p.2)).map (·.1) = (c.post x).left.map fun p => R.getD p.1 0 := by rw [List.map_map]; rfl
      simp only [AS.setRoots] at hp
      split at hp
      · rename_i rc' he
        simp only [Option.some.injEq] at hp
        subst hp
        obtain ⟨v', e1, e2⟩ := lk_inv (g := fun x : RC => x) he
        subst e2
        rcases List.mem_append.1 e1 with e1 | e1
        · obtain ⟨r, e3, e4⟩ := resRoots_rep (d.getD 0) (c.post x).res 0 ids us hres p rc' e1
          rw [hrd] at e3
          exact .inr (lendGam_root hn1 hn2 h.keep.size (by rw [← hle]; exact List.mem_append.2 (.inl e3)) e4)
        · obtain ⟨q, hq, e⟩ := List.mem_map.1 e1
          simp only [Prod.mk.injEq] at e
          have h3 := (hlf q hq).1
          have h4 := hRk q hq
          rw [e.1] at h4
          rw [e.2] at h3
          exact .inr (lendGam_root hn1 hn2 h.keep.size h4 h3)
      · rename_i he
        have hR0 : p ∉ R := fun e => by
          simp only [AS.dropR] at hp
          rw [if_pos (by simpa using e)] at hp
          cases hp
        have hp' : s.roots p = some rc := by
          simp only [AS.dropR] at hp
          rw [if_neg (by simpa using hR0)] at hp
          exact hp
        refine .inl ⟨fun e => ?_, hp'⟩
        rcases e with e | e
        · rw [← hrd] at e
          obtain ⟨y, e1, e2⟩ := List.mem_map.1 e
          have := lk_some _ (fun x : RC => x) y.1 y.2 (by
            rw [List.map_append, hfst, hrd, ← hl1]; exact hn1) (List.mem_append.2 (.inl e1))
          rw [e2, he] at this
          cases this
        · exact hR0 e
    · refine resBVs_rep (C' := lentCtx C γ R w Z) (γ' := γ') (d.getD 0) (strictL c.as svs) (fun hs b hb => ?_) (c.post x).res 0 ids us hres (fun p r hp => ?_)
      · exact hzn hs b hb
      rw [hrd] at hp
      have := (invP_mem hn1).2 (by rw [← hle]; exact List.mem_append.2 (.inl hp) : (p, r) ∈ l)
      simp only [Gam.hd, lendGam, this]

/-- **A call of a function that has a contract.** -/
theorem callF_sound (hE : KnowOK C.P E) (h : Rel C γ s a w) (d : Option Tmp) (f : FuncId) (svs : List SV) (vs : List Value) (hl : svs.length = vs.length)
    (hr : ∀ (i : Nat) (sv : SV) (v : Value), svs[i]? = some sv → vs[i]? = some v → svRep C γ w sv v) (hok : (callF E C.nl s d f svs).1) :
    Callable C.P f ∧ Calls C.P f vs.toArray w (fun e w' => ∃ v γ2, e = .returned v ∧ Rel C γ2 (callF E C.nl s d f svs).2.1 a w' ∧ svRep C γ2 w' (callF E C.nl s d f svs).2.2 v) := by
  unfold callF at hok ⊢
  cases hT : E.T f with
  | none => rw [hT] at hok; exact hok.elim
  | some c =>
    rw [hT] at hok
    simp only at hok ⊢
    cases hh : hasLend c.as with
    | true =>
      rw [hh] at hok
      exact callL_sound hE (hE.con f c hT) h d svs vs hl hr hok
    | false =>
      rw [hh] at hok
      exact callE_sound hE h d f svs vs hl hr hok


/-- Without a loan it is the plain call. -/
theorem viewAs_none (E : Know) (s : AS) : ∀ (as : List AD) (svs : List SV), hasLend as = true → viewAs E s as svs = none
  | [], _, h => by simp [hasLend] at h
  | _ :: _, [], _ => rfl
  | .lend :: as, v :: vs, _ => rfl
  | .dat sh :: as, v :: vs, h => by
    simp only [viewAs, viewAs_none E s as vs h]
    split <;> first | rfl | (rename_i e; cases e)
  | .ptr sh :: as, v :: vs, h => by
    simp only [viewAs, viewAs_none E s as vs h]
    split <;> first | rfl | (rename_i e; cases e)
  | .fnc l r :: as, v :: vs, h => by
    simp only [viewAs, viewAs_none E s as vs h]
    split <;> first | rfl | (rename_i e; cases e)
  | .pfn l r :: as, v :: vs, h => by
    simp only [viewAs, viewAs_none E s as vs h]
    split <;> first | rfl | (rename_i e; cases e)
end
end Go.VS
