/- Value semantics, part M: a state may be weakened: values are forgotten, owned slices become mere data, nil slices become empty owned ones. Over any program; no condition. -/
import Derived.Test.YtaldpinkkgdklaaVsL
namespace Go.VS
open Go.RowKit
set_option linter.unusedSimpArgs false
set_option linter.unusedVariables false

def newR (s t : AS) (r : Nat) : Bool := (s.roots r).isNone && (t.roots r).isSome
def keepR (s t : AS) (r : Nat) : Bool := (s.roots r).isSome && (t.roots r).isSome

def names : BV → List Nat
  | .ref r | .refi r _ | .adr r _ _ | .adri r _ _ _ | .lits r => [r]
  | _ => []

def convS (s t : AS) : BV → BV → Prop
  | .ref r, .val sh' x' => t.roots r = none ∧ (match s.roots r with
    | some (.flat _ sh xs) => BV.val sh' x' = .val (.sl sh) xs
    | some (.deep _ _ sh xss) => BV.val sh' x' = .val (.sl (.sl sh)) xss
    | _ => False)
  | .refi r i, .val sh' x' => t.roots r = none ∧ (match s.roots r with
    | some (.deep _ _ sh xss) => i < xss.length ∧ BV.val sh' x' = .val (.sl sh) (xss.getD i [])
    | _ => False)
  | .nils, .val sh' x' => ∃ sh, BV.val sh' x' = .val (.sl sh) ([] : List sh.T)
  | .nils, .ref r => newR s t r = true
  | b, b' => b = b' ∧ ∀ r ∈ names b, newR s t r = false

def conv (s t : AS) (b b' : BV) : Prop := b' = .any ∨ convS s t b b'

def svConv (s t : AS) : SV → SV → Prop
  | .one b, .one b' => conv s t b b'
  | sv, sv' => sv' = .one .any ∨ (sv = sv' ∧ ∀ b ∈ sv.bvs, ∀ r ∈ names b, newR s t r = false)

def emptyRC : RC → Prop
  | .flat _ s xs => s.flat = true ∧ xs = []
  | .deep _ _ s xss => s.flat = true ∧ xss = []
  | .hole .. => False

structure Weak (nl : Nat) (s t : AS) : Prop where
  env : ∀ i, svConv s t (s.env i) (t.env i)
  boxes : ∀ b sv, t.boxes b = some sv → ∃ sv0, s.boxes b = some sv0 ∧ svConv s t sv0 sv
  roots : ∀ r rc, t.roots r = some rc → s.roots r = some rc ∨ (s.roots r = none ∧ nl ≤ r ∧ emptyRC rc)

section
variable {C : Ctx} {G : Lang} {γ : Gam} {s t : AS} {a : Act} {w : World}

theorem frozen_flat {Z : Nat → Prop} {e : TypeId} {sh : Sh} (hf : sh.flat = true) {xs : List sh.T} {v : Value} (h : w.ownsRow 0 e sh.size v xs.length (xs.flatMap sh.cells)) (hz : ∀ g, v.ownBlock = some g → Z g) :
    pers w Z (.sl sh) xs [v] := by
  obtain ⟨ad, cap, rfl, h1, h2⟩ := own_slice h
  refine ⟨ad, cap, rfl, h1, h2, fun i hi => ?_⟩
  obtain ⟨g, cap', e1⟩ := own_head h (by omega)
  simp only [Value.slice.injEq] at e1
  obtain ⟨rfl, _, rfl⟩ := e1
  have hlt : g < w.heap.size := by
    rcases h.2 with ⟨e2, _⟩ | ⟨g', cap', cur, e2, _, hg, _⟩
    · simp at e2
    · simp only [Value.slice.injEq, Option.some.injEq, Addr.mk.injEq, and_true, true_and] at e2
      obtain ⟨e2, _⟩ := e2
      subst e2
      exact (Array.getElem?_eq_some_iff.1 hg).1
  refine ⟨g, 0, sh.cells xs[i], rfl, hz g rfl, hlt, (pers_flat sh _ _ hf).2 rfl, fun j c hj => ?_⟩
  rw [Nat.zero_add]
  rcases Nat.eq_zero_or_pos sh.size with hs | hs
  · have := (List.getElem?_eq_some_iff.1 hj).1
    rw [cells_len] at this
    omega
  · exact own_elem h hi hs j c hj

theorem frozen_deep {Z : Nat → Prop} {e e2 : TypeId} {sh : Sh} {r : Nat} (hf : sh.flat = true) {xss : List (List sh.T)} (h : w.ownsRow 0 e 1 (γ.hd r) xss.length (rowsOf γ r xss.length)) (hz : ∀ g, (γ.hd r).ownBlock = some g → Z g)
    (hr : ∀ i xs, xss[i]? = some xs → w.ownsRow 0 e2 sh.size (γ.rows r i) xs.length (xs.flatMap sh.cells) ∧ ∀ g, (γ.rows r i).ownBlock = some g → Z g) : pers w Z (.sl (.sl sh)) xss [γ.hd r] := by
  obtain ⟨ad, cap, e0, h1, h2⟩ := own_slice h
  rw [e0] at h hz ⊢
  refine ⟨ad, cap, rfl, h1, h2, fun i hi => ?_⟩
  obtain ⟨g, cap', e1⟩ := own_head h (by omega)
  simp only [Value.slice.injEq] at e1
  obtain ⟨rfl, _, rfl⟩ := e1
  have hlt : g < w.heap.size := by
    rcases h.2 with ⟨e2, _⟩ | ⟨g', cap', cur, e2, _, hg, _⟩
    · simp at e2
    · simp only [Value.slice.injEq, Option.some.injEq, Addr.mk.injEq, and_true, true_and] at e2
      obtain ⟨e2, _⟩ := e2
      subst e2
      exact (Array.getElem?_eq_some_iff.1 hg).1
  obtain ⟨k1, k2⟩ := hr i xss[i] (by simp [hi])
  refine ⟨g, 0, [γ.rows r i], rfl, hz g rfl, hlt, frozen_flat hf k1 k2, fun j c hj => ?_⟩
  cases j with
  | zero =>
    simp only [List.getElem?_cons_zero, Option.some.injEq] at hj
    subst hj
    have := own_cell h (rows_get (γ := γ) (r := r) hi)
    simpa [Sh.size] using this
  | succ j => simp at hj

def weakGam (γ : Gam) (s t : AS) : Gam :=
  ⟨fun r => if newR s t r then ⟨none, 0, 0⟩ else γ.hs r, γ.rs, γ.bx, fun b => match γ.own b with
    | some (.hd r) => if keepR s t r then some (.hd r) else none
    | some (.row r i) => if keepR s t r then some (.row r i) else none
    | o => o⟩

theorem weak_sub (w : World) : Sub C γ w (weakGam γ s t) w :=
  ⟨Nat.le_refl _, fun b _ hz => ⟨⟨hz.1, by simp only [weakGam, hz.2]⟩, rfl⟩, fun b d _ ho => ⟨by simp only [weakGam, ho], rfl⟩⟩

theorem weak_agree {b : BV} (h : ∀ r ∈ names b, newR s t r = false) : Agree γ (weakGam γ s t) b := by
  cases b <;> simp only [Agree] <;> first
    | trivial
    | rfl
    | (exact fun _ _ => rfl)
    | (simp only [Gam.hd, weakGam]; rw [if_neg]; rw [h _ (List.mem_singleton.2 rfl)]; simp)

theorem weak_zone {r : Nat} {v : Value} {l : Loc} (hl : l = .hd r ∨ ∃ i, l = .row r i) (ho : ownB C γ v l) (ht : t.roots r = none) : ∀ g, v.ownBlock = some g → C.zn (weakGam γ s t) g := by
  intro g hg
  obtain ⟨h1, h2⟩ := ho g hg
  refine ⟨.inr h2, ?_⟩
  have hk : keepR s t r = false := by simp [keepR, ht]
  simp only [weakGam, h1]
  rcases hl with rfl | ⟨i, rfl⟩ <;> simp [hk]

theorem conv_rep (h : Rel C γ s a w) {b b' : BV} {v : Value} (hc : conv s t b b') (hv : bvRep C γ w b v) : bvRep C (weakGam γ s t) w b' v := by
  have dflt : b = b' ∧ (∀ r ∈ names b, newR s t r = false) → bvRep C (weakGam γ s t) w b' v := by
    rintro ⟨rfl, hn⟩
    exact bvRep_mono (weak_sub w) (weak_agree hn) hv
  rcases hc with rfl | hc
  · trivial
  unfold convS at hc
  split at hc
  · rename_i r sh' x'
    obtain ⟨ht, hc⟩ := hc
    simp only [bvRep] at hv
    split at hc
    · rename_i e sh xs hr
      rw [hc]
      obtain ⟨hf, h1, h2⟩ := h.roots r _ hr
      exact ⟨[v], by rw [hv]; exact frozen_flat hf h1 (weak_zone (.inl rfl) h2 ht), rfl⟩
    · rename_i e e2 sh xss hr
      rw [hc]
      obtain ⟨hf, h1, h2, h3⟩ := h.roots r _ hr
      exact ⟨[v], by rw [hv]; exact frozen_deep hf h1 (weak_zone (.inl rfl) h2 ht) (fun i xs hi => ⟨(h3 i xs hi).1, weak_zone (.inr ⟨i, rfl⟩) (h3 i xs hi).2 ht⟩), rfl⟩
    · exact hc.elim
  · rename_i r i sh' x'
    obtain ⟨ht, hc⟩ := hc
    simp only [bvRep] at hv
    split at hc
    · rename_i e e2 sh xss hr
      obtain ⟨hi, hc⟩ := hc
      rw [hc]
      obtain ⟨hf, h1, h2, h3⟩ := h.roots r _ hr
      have hgi : xss.getD i [] = xss[i] := by simp [List.getD_eq_getElem?_getD, hi]
      rw [hgi]
      obtain ⟨k1, k2⟩ := h3 i xss[i] (by simp [hi])
      exact ⟨[v], by rw [hv]; exact frozen_flat hf k1 (weak_zone (.inr ⟨i, rfl⟩) k2 ht), rfl⟩
    · exact hc.elim
  · obtain ⟨sh, hc⟩ := hc
    rw [hc]
    simp only [bvRep] at hv
    exact ⟨[v], ⟨none, 0, by rw [hv]; rfl, Nat.le_refl _, Nat.zero_le _, fun i hi => by simp at hi⟩, rfl⟩
  · rename_i r
    simp only [bvRep, Gam.hd, weakGam] at hv ⊢
    rw [if_pos hc, hv]
    rfl
  · exact dflt hc

theorem svConv_rep (h : Rel C γ s a w) {b b' : SV} {v : Value} (hc : svConv s t b b') (hv : svRep C γ w b v) : svRep C (weakGam γ s t) w b' v := by
  have dflt : b' = .one .any ∨ (b = b' ∧ ∀ x ∈ b.bvs, ∀ r ∈ names x, newR s t r = false) → svRep C (weakGam γ s t) w b' v := by
    rintro (rfl | ⟨rfl, hn⟩)
    · trivial
    · exact svRep_mono (weak_sub w) (fun x hx => weak_agree (hn x hx)) hv
  unfold svConv at hc
  split at hc
  · exact conv_rep h hc hv
  · exact dflt hc

theorem svConv_cells (h : Rel C γ s a w) {b b' : SV} {cs : List Value} (hc : svConv s t b b') (hv : boxCells C γ w b cs) : boxCells C (weakGam γ s t) w b' cs := by
  have dflt : b' = .one .any ∨ (b = b' ∧ ∀ x ∈ b.bvs, ∀ r ∈ names x, newR s t r = false) → boxCells C (weakGam γ s t) w b' cs := by
    rintro (rfl | ⟨rfl, hn⟩)
    · exact ⟨.agg cs.toArray, trivial, by simp [Value.cells]⟩
    · exact boxCells_mono (weak_sub w) (fun x hx => weak_agree (hn x hx)) hv
  unfold svConv at hc
  split at hc
  · obtain ⟨v, h1, h2⟩ := hv
    exact ⟨v, conv_rep h hc h1, h2⟩
  · exact dflt hc

/-- **A state may be weakened.** -/
theorem Weak.rel (hw : Weak C.nl s t) (h : Rel C γ s a w) : Rel C (weakGam γ s t) t a w := by
  have hown : ∀ k l, (weakGam γ s t).own k = some l → γ.own k = some l := by
    intro k l hk
    simp only [weakGam] at hk
    split at hk
    · rename_i e
      split at hk
      · rw [e]; exact hk
      · cases hk
    · rename_i e
      split at hk
      · rw [e]; exact hk
      · cases hk
    · exact hk
  refine ⟨h.defers, h.keep, fun k l hk => h.ownlt k l (hown k l hk), fun r hr => ?_, fun i => svConv_rep h (hw.env i) (h.env i), fun r rc hr => ?_, fun b sv hb => ?_⟩
  · have hn : newR s t r = false := by
      rcases hx : newR s t r with _ | _
      · rfl
      · simp only [newR, Bool.and_eq_true, Option.isNone_iff_eq_none, Option.isSome_iff_exists] at hx
        obtain ⟨h1, rc, h2⟩ := hx
        rcases hw.roots r rc h2 with h3 | h3
        · rw [h1] at h3; cases h3
        · omega
    simp only [Gam.hd, weakGam, hn]
    exact h.lent r hr
  · rcases hw.roots r rc hr with h1 | ⟨h1, h2, h3⟩
    · have hn : newR s t r = false := by simp [newR, h1]
      have hk : keepR s t r = true := by simp [keepR, h1, hr]
      have hhd : (weakGam γ s t).hd r = γ.hd r := by simp [Gam.hd, weakGam, hn]
      have ho1 : ∀ v, ownB C γ v (.hd r) → ownB C (weakGam γ s t) v (.hd r) := fun v ho k hv => ⟨by simp [weakGam, (ho k hv).1, hk], (ho k hv).2⟩
      have ho2 : ∀ v i, ownB C γ v (.row r i) → ownB C (weakGam γ s t) v (.row r i) := fun v i ho k hv => ⟨by simp [weakGam, (ho k hv).1, hk], (ho k hv).2⟩
      have h4 := h.roots r rc h1
      cases rc with
      | flat e sh xs => exact ⟨h4.1, by rw [hhd]; exact h4.2.1, by rw [hhd]; exact ho1 _ h4.2.2⟩
      | deep e e2 sh xss => exact ⟨h4.1, by rw [hhd]; exact h4.2.1, by rw [hhd]; exact ho1 _ h4.2.2.1, fun i xs hi => ⟨(h4.2.2.2 i xs hi).1, ho2 _ i (h4.2.2.2 i xs hi).2⟩⟩
      | hole e e2 sh xss k => exact ⟨h4.1, by rw [hhd]; exact h4.2.1, by rw [hhd]; exact ho1 _ h4.2.2.1, fun i xs hne hi => ⟨(h4.2.2.2 i xs hne hi).1, ho2 _ i (h4.2.2.2 i xs hne hi).2⟩⟩
    · have hn : newR s t r = true := by simp [newR, h1, hr]
      have hhd : (weakGam γ s t).hd r = .slice none 0 0 := by simp [Gam.hd, weakGam, hn, Sl.v]
      cases rc with
      | flat e sh xs =>
        obtain ⟨hf, rfl⟩ := h3
        exact ⟨hf, by rw [hhd]; exact World.ownsRow_nil _ _ _ _, by rw [hhd]; exact fun k hk => by simp [Value.ownBlock] at hk⟩
      | deep e e2 sh xss =>
        obtain ⟨hf, rfl⟩ := h3
        exact ⟨hf, by rw [hhd]; exact World.ownsRow_nil _ _ _ _, by rw [hhd]; exact fun k hk => by simp [Value.ownBlock] at hk, fun i xs hi => by simp at hi⟩
      | hole e e2 sh xss k => exact h3.elim
  · obtain ⟨sv0, h1, h2⟩ := hw.boxes b sv hb
    obtain ⟨cs, tt, d1, d2, d3, d4, d5⟩ := h.boxes b sv0 h1
    exact ⟨cs, tt, d1, svConv_cells h h2 d2, d3, by simp only [weakGam]; rw [d4], d5⟩

/-! ### Weakening to a state that is written out -/
theorem weak_of {nl : Nat} {env : List (Nat × SV)} {roots : List (Nat × RC)} {boxes : List (Nat × SV)}
    (h1 : ∀ p ∈ env, svConv s (AS.of env roots boxes) (s.env p.1) p.2)
    (h2 : ∀ p ∈ roots, s.roots p.1 = some p.2 ∨ (s.roots p.1 = none ∧ nl ≤ p.1 ∧ emptyRC p.2))
    (h3 : ∀ p ∈ boxes, ∃ sv0, s.boxes p.1 = some sv0 ∧ svConv s (AS.of env roots boxes) sv0 p.2) : Weak nl s (AS.of env roots boxes) := by
  refine ⟨fun i => ?_, fun b sv hb => ?_, fun r rc hr => ?_⟩
  · rcases lk_mem (SV.one BV.any) env i with h | h
    · have : (AS.of env roots boxes).env i = .one .any := h
      rw [this]
      unfold svConv
      split
      · rename_i e
        simp only [SV.one.injEq] at e
        exact .inl e.symm
      · exact .inl rfl
    · exact h1 _ h
  · rcases lk_mem (none : Option SV) (boxes.map fun p => (p.1, some p.2)) b with h | h
    · simp only [AS.of] at hb; rw [h] at hb; cases hb
    · have hb' := hb
      simp only [AS.of] at hb'
      rw [hb'] at h
      simp only [List.mem_map, Prod.mk.injEq, Option.some.injEq] at h
      obtain ⟨p, hp, e1, e2⟩ := h
      rw [← e1, ← e2]
      exact h3 p hp
  · rcases lk_mem (none : Option RC) (roots.map fun p => (p.1, some p.2)) r with h | h
    · simp only [AS.of] at hr; rw [h] at hr; cases hr
    · simp only [AS.of] at hr
      rw [hr] at h
      simp only [List.mem_map, Prod.mk.injEq, Option.some.injEq] at h
      obtain ⟨p, hp, e1, e2⟩ := h
      rw [← e1, ← e2]
      exact h2 p hp
end
end Go.VS
