/- Value semantics, part I: new slices, appends, new variables are sound. Over any program; no condition. -/
import Derived.Test.YtaldpinkkgdklaaVsH
namespace Go.VS
open Go.RowKit
set_option linter.unusedSimpArgs false
set_option linter.unusedVariables false

section
variable {C : Ctx} {G : Lang} {γ γ' : Gam} {s : AS} {a : Act} {w w' : World}

def Loc.root : Loc → Option Nat
  | .hd r => some r
  | .row r _ => some r
  | .bx _ => none
  | .mk _ => none

/-- A step that changes the roots of 'T' alone. -/
structure Move (C : Ctx) (γ : Gam) (w : World) (γ' : Gam) (w' : World) (T : Nat → Prop) : Prop where
  sub : Sub C γ w γ' w'
  keep : Keep C.L C.w0 w'
  ownlt : ∀ k l, γ'.own k = some l → k < w'.heap.size
  lent : ∀ r, r < C.nl → γ'.hd r = C.lh r
  hd : ∀ p, ¬ T p → γ'.hd p = γ.hd p
  rows : ∀ p i, ¬ T p → γ'.rows p i = γ.rows p i
  bx : ∀ x, γ'.bx x = γ.bx x
  kept : ∀ b l, γ.own b = some l → (∀ r, l.root = some r → ¬ T r) → γ'.own b = some l ∧ w'.heap[b]? = w.heap[b]?

theorem own_same {e sz n : Nat} {v : Value} {xs : List Value} (h : w.ownsRow 0 e sz v n xs) (hb : ∀ k, v.ownBlock = some k → w'.heap[k]? = w.heap[k]?) : w'.ownsRow 0 e sz v n xs := by
  obtain ⟨h1, h2⟩ := h
  refine ⟨h1, ?_⟩
  rcases h2 with h2 | ⟨g, cap, cur, rfl, hb0, hg, r⟩
  · exact .inl h2
  · exact .inr ⟨g, cap, cur, rfl, hb0, (hb g rfl).trans hg, r⟩

theorem Move.ownB {T : Nat → Prop} (m : Move C γ w γ' w' T) {v : Value} {l : Loc} (hl : ∀ r, l.root = some r → ¬ T r) (h : ownB C γ v l) : VS.ownB C γ' v l ∧ ∀ k, v.ownBlock = some k → w'.heap[k]? = w.heap[k]? :=
  ⟨fun k hk => ⟨(m.kept k l (h k hk).1 hl).1, (h k hk).2⟩, fun k hk => (m.kept k l (h k hk).1 hl).2⟩

theorem Move.root {T : Nat → Prop} (m : Move C γ w γ' w' T) {p : Nat} {rc : RC} (hp : ¬ T p) (h : rcRep C γ w p rc) : rcRep C γ' w' p rc := by
  have hrf : ∀ n, rowsOf γ' p n = rowsOf γ p n := fun n => by simp [rowsOf, m.rows p _ hp]
  have h1 : ∀ r, (Loc.hd p).root = some r → ¬ T r := fun r e => by simp [Loc.root] at e; subst e; exact hp
  have h2 : ∀ i r, (Loc.row p i).root = some r → ¬ T r := fun i r e => by simp [Loc.root] at e; subst e; exact hp
  have rowOK : ∀ {e2 : TypeId} {sh : Sh} {i : Nat} {xs : List sh.T}, rowRep C γ w p e2 sh i xs → rowRep C γ' w' p e2 sh i xs := by
    intro e2 sh i xs hr
    unfold rowRep at *
    obtain ⟨b1, b2⟩ := m.ownB (h2 i) hr.2
    rw [m.rows p i hp]
    exact ⟨own_same hr.1 b2, b1⟩
  cases rc with
  | flat e sh xs =>
    obtain ⟨b1, b2⟩ := m.ownB h1 h.2.2
    refine ⟨h.1, ?_, ?_⟩ <;> rw [m.hd p hp]
    · exact own_same h.2.1 b2
    · exact b1
  | deep e e2 sh xss =>
    obtain ⟨b1, b2⟩ := m.ownB h1 h.2.2.1
    refine ⟨h.1, ?_, ?_, fun i xs hi => rowOK (h.2.2.2 i xs hi)⟩ <;> rw [m.hd p hp]
    · rw [hrf]; exact own_same h.2.1 b2
    · exact b1
  | hole e e2 sh xss k =>
    obtain ⟨b1, b2⟩ := m.ownB h1 h.2.2.1
    refine ⟨h.1, ?_, ?_, fun i xs hne hi => rowOK (h.2.2.2 i xs hne hi)⟩ <;> rw [m.hd p hp]
    · rw [hrf]; exact own_same h.2.1 b2
    · exact b1

theorem Move.rel {T : Nat → Prop} (m : Move C γ w γ' w' T) (h : Rel C γ s a w) {K : BV → BV} (hK : Forgets K γ γ') {roots' : Nat → Option RC}
    (hr : ∀ p rc, roots' p = some rc → (¬ T p ∧ s.roots p = some rc) ∨ rcRep C γ' w' p rc) :
    Rel C γ' ⟨fun i => mapSV K (s.env i), roots', fun b => (s.boxes b).map (mapSV K)⟩ a w' := by
  refine ⟨h.defers, m.keep, m.ownlt, m.lent, fun i => svRep_map m.sub hK (h.env i), fun p rc hp => ?_, fun b sv hb => ?_⟩
  · rcases hr p rc hp with ⟨h1, h2⟩ | h1
    · exact m.root h1 (h.roots p rc h2)
    · exact h1
  · simp only [Option.map_eq_some_iff] at hb
    obtain ⟨sv', h1, rfl⟩ := hb
    obtain ⟨cs, t, d1, d2, d3, d4, d5⟩ := h.boxes b sv' h1
    obtain ⟨k1, k2⟩ := m.kept _ _ d4 (fun r e => by simp [Loc.root] at e)
    refine ⟨cs, t, ?_, boxCells_map m.sub hK d2, d3, ?_, ?_⟩ <;> rw [m.bx b]
    · exact k2.trans d1
    · exact k1
    · exact d5

theorem forgets_killR {d : Nat} (hh : ∀ q, q ≠ d → γ'.hd q = γ.hd q) (hr : ∀ q i, q ≠ d → γ'.rows q i = γ.rows q i) (hb : ∀ x, γ'.bx x = γ.bx x) : Forgets (killR d) γ γ' := by
  intro b
  by_cases h1 : killR d b = .any
  · exact .inl h1
  · exact .inr ⟨(killR_or d b).resolve_left h1, killR_agree h1 hh hr hb⟩

/-- The root d gets a header of its own, in new memory or in none. -/
def newGam (γ : Gam) (d : Nat) (x : Sl) (rs : Nat → Sl) (k : Nat) : Gam := ⟨upd γ.hs d x, upd γ.rs d rs, γ.bx, fun b => if x.v.ownBlock = some b ∧ b = k then some (.hd d) else γ.own b⟩

theorem move_new (h : Rel C γ s a w) {d : Nat} (hd : C.nl ≤ d) (x : Sl) (rs : Nat → Sl) (hg : w.grownBy w' none) (hx : ∀ b, x.v.ownBlock = some b → b = w.heap.size ∧ b < w'.heap.size) :
    Move C γ w (newGam γ d x rs w.heap.size) w' (fun p => p = d) := by
  have hsame : ∀ b, b < w.heap.size → (newGam γ d x rs w.heap.size).own b = γ.own b := fun b hb => by
    simp only [newGam]
    rw [if_neg (fun e => by omega)]
  refine ⟨⟨hg.size, fun b hb hz => ⟨⟨hz.1, by rw [hsame b hb]; exact hz.2⟩, hg.block b hb (by simp)⟩, fun b d hb ho => ⟨by rw [hsame b hb]; exact ho, hg.block b hb (by simp)⟩⟩, ⟨hg.os.trans h.keep.os, hg.tape.trans h.keep.tape, hg.output.trans h.keep.output, Nat.le_trans h.keep.size hg.size, fun k hk hL =>
    (hg.block k (Nat.lt_of_lt_of_le hk h.keep.size) (by simp)).trans (h.keep.block k hk hL)⟩, fun k l hk => ?_, fun r hr => ?_, fun p hp => ?_, fun p i hp => ?_, fun _ => rfl, fun b l hb hl => ⟨?_, hg.block b (h.ownlt b l hb) (by simp)⟩⟩
  · simp only [newGam] at hk
    split at hk
    · rename_i e; exact (hx k e.1).2
    · exact Nat.lt_of_lt_of_le (h.ownlt k l hk) hg.size
  · simp only [Gam.hd, newGam, upd]
    rw [if_neg (by omega)]
    exact h.lent r hr
  · simp only [Gam.hd, newGam, upd]
    rw [if_neg hp]
  · simp only [Gam.rows, newGam, upd]
    rw [if_neg hp]
  · rw [hsame b (h.ownlt b l hb)]
    exact hb

theorem newGam_hd (γ : Gam) (d : Nat) (x : Sl) (rs : Nat → Sl) (k : Nat) : (newGam γ d x rs k).hd d = x.v := by simp [newGam, Gam.hd, upd]
theorem newGam_rows (γ : Gam) (d : Nat) (x : Sl) (rs : Nat → Sl) (k i : Nat) : (newGam γ d x rs k).rows d i = (rs i).v := by simp [newGam, Gam.rows, upd]
theorem newGam_own {d : Nat} {x : Sl} {rs : Nat → Sl} (h : Rel C γ s a w) (hx : ∀ b, x.v.ownBlock = some b → b = w.heap.size) : ownB C (newGam γ d x rs w.heap.size) x.v (.hd d) := by
  intro k hk
  refine ⟨?_, .inl ?_⟩
  · simp only [newGam]
    rw [if_pos ⟨hk, hx k hk⟩]
  · rw [hx k hk]
    exact h.keep.size

theorem rel_new (h : Rel C γ s a w) {d : Nat} (hd : C.nl ≤ d) (x : Sl) (rs : Nat → Sl) (hg : w.grownBy w' none) (hx : ∀ b, x.v.ownBlock = some b → b = w.heap.size ∧ b < w'.heap.size) {rc : RC}
    (hrc : rcRep C (newGam γ d x rs w.heap.size) w' d rc) : Rel C (newGam γ d x rs w.heap.size) ((s.map (killR d)).setRoot d (some rc)) a w' := by
  have m := move_new h hd x rs hg hx
  refine m.rel h (forgets_killR (fun q hq => m.hd q hq) (fun q i hq => m.rows q i hq) m.bx) (fun p rc' hp => ?_)
  simp only [AS.map, upd] at hp
  split at hp
  · rename_i e
    subst e
    simp only [Option.some.injEq] at hp
    subst hp
    exact .inr hrc
  · rename_i e
    exact .inl ⟨e, hp⟩

theorem made_flat {sh : Sh} (z : Array Value) (hz : z.toList = sh.cells sh.zero) (hpos : 0 < sh.size) (k : Nat) : (madeCells z (k * sh.size)).toList = (List.replicate k sh.zero).flatMap sh.cells := by
  have hzs : z.size = sh.size := by have := congrArg List.length hz; rw [cells_len] at this; simpa using this
  apply List.ext_getElem?
  intro j
  have hlen : ((List.replicate k sh.zero).flatMap sh.cells).length = k * sh.size := by rw [flatMap_len sh.cells sh.size (cells_len sh)]; simp
  rcases Nat.lt_or_ge j (k * sh.size) with hj | hj
  · have h1 : j / sh.size < k := (Nat.div_lt_iff_lt_mul hpos).2 hj
    have h2 : j % sh.size < sh.size := Nat.mod_lt _ hpos
    have h3 : j = (j / sh.size) * sh.size + j % sh.size := by rw [Nat.mul_comm]; exact (Nat.div_add_mod j sh.size).symm
    have h4 := flatMap_get sh.cells sh.size (cells_len sh) (List.replicate k sh.zero) (j / sh.size) (j % sh.size) (by simpa using h1) h2
    rw [← h3] at h4
    rw [h4]
    have h5 : (sh.cells sh.zero)[j % sh.size]? = z[j % sh.size]? := by rw [← hz]; simp
    have h6 : z[j % sh.size]? = some (z[j % sh.size]'(by omega)) := by simp [hzs, h2]
    simp only [List.getElem_replicate, h5, h6]
    simp [madeCells, hzs, hj, h2]
  · have h1 : (madeCells z (k * sh.size)).toList.length ≤ j := by rw [Array.length_toList, size_madeCells]; exact hj
    rw [List.getElem?_eq_none h1, List.getElem?_eq_none (by rw [hlen]; exact hj)]

theorem w_make_flat (hG : LangOK C.P G) (h : Rel C γ s a w) {d : Nat} {t : TypeId} {l c : Operand} {ty : TypeId} {pos : String} {af : Array Edge} {gd : Option (Nat × Bool)} {sh : Sh} {n : Int}
    (hl : ev s l = .one (.val .int n)) (hc : ev s c = .one (.val .int n)) (ht : G.sh t = some (.sl sh)) (hn : cutOK n 1000000) (hf : sh.flat = true) (hd : C.nl ≤ d) :
    ∃ v w' γ', (execOp a.eval ⟨some d, .makeSlice t l c, ty, pos, af, gd⟩).run C.P w = .ok (.value v) w' ∧
      Rel C γ' ((s.map (killR d)).setRoot d (some (.flat (G.el t) sh (List.replicate n.toNat sh.zero)))) a w' ∧ svRep C γ' w' (.one (.ref d)) v := by
  have hl' := ev_rep h l
  have hc' := ev_rep h c
  rw [hl] at hl'
  rw [hc] at hc'
  have hl' := rep_int hl'
  have hc' := rep_int hc'
  obtain ⟨hu, he, hpos⟩ := hG.sl t sh ht
  obtain ⟨i0, z, hi0, hs0, hby, hz, hzc⟩ := hG.info _ sh he
  obtain ⟨k, rfl⟩ : ∃ k : Nat, n = k := ⟨n.toNat, by have := hn.1; omega⟩
  have hk : k ≤ 1000000 := by have := hn.2; omega
  obtain ⟨w', hr, hown, hg⟩ := run_make_full (P := C.P) w 0 t (G.el t) i0 z sh.size hu hi0 hz hs0 .i64 .i64 k (by have := Nat.mul_le_mul hby hk; omega) (by unfold maxLen; omega) (Nat.zero_le _)
  have hlt : w.heap.size < w'.heap.size := by
    rcases hown.2 with ⟨e, _⟩ | ⟨g, cap, cur, e, _, hg', _⟩
    · simp at e
    · simp only [Value.slice.injEq, Option.some.injEq, Addr.mk.injEq, and_true, true_and] at e
      obtain ⟨e1, _⟩ := e
      rw [e1]
      exact (Array.getElem?_eq_some_iff.1 hg').1
  let x : Sl := ⟨some ⟨w.heap.size, 0, none⟩, k, k⟩
  have hx : ∀ b, x.v.ownBlock = some b → b = w.heap.size := fun b hb => by
    simp only [x, Sl.v, Value.ownBlock, Option.some.injEq] at hb
    exact hb.symm
  refine ⟨x.v, w', newGam γ d x (fun _ => ⟨none, 0, 0⟩) w.heap.size, run_v (by rw [hl', hc']; exact hr), rel_new h hd x _ hg (fun b hb => ⟨hx b hb, by rw [hx b hb]; exact hlt⟩) ⟨hf, ?_, ?_⟩, by simp only [svRep, bvRep]; rw [newGam_hd]⟩
  · rw [newGam_hd, List.length_replicate, Int.toNat_natCast]
    have hcells : (madeCells z.cells (k * sh.size)).toList = (List.replicate k sh.zero).flatMap sh.cells := by
      have hz' : z.cells.toList = sh.cells sh.zero := hzc
      exact made_flat z.cells hz' hpos.1 k
    rw [← hcells]
    exact hown
  · rw [newGam_hd]
    exact newGam_own h hx
theorem replicate_flatMap {α : Type} (c : Value) (k : Nat) {x : α} : (List.replicate k x).flatMap (fun _ => [c]) = List.replicate k c := by
  induction k with
  | zero => rfl
  | succ k ih => simp [List.replicate_succ, ih]

theorem w_make_deep (hG : LangOK C.P G) (h : Rel C γ s a w) {d : Nat} {t : TypeId} {l c : Operand} {ty : TypeId} {pos : String} {af : Array Edge} {gd : Option (Nat × Bool)} {sh : Sh} {n : Int}
    (hl : ev s l = .one (.val .int n)) (hc : ev s c = .one (.val .int n)) (ht : G.sh t = some (.sl (.sl sh))) (hn : cutOK n 1000000) (hf : sh.flat = true) (hd : C.nl ≤ d) :
    ∃ v w' γ', (execOp a.eval ⟨some d, .makeSlice t l c, ty, pos, af, gd⟩).run C.P w = .ok (.value v) w' ∧
      Rel C γ' ((s.map (killR d)).setRoot d (some (.deep (G.el t) (G.el (G.el t)) sh (List.replicate n.toNat [])))) a w' ∧ svRep C γ' w' (.one (.ref d)) v := by
  have hl' := ev_rep h l
  have hc' := ev_rep h c
  rw [hl] at hl'
  rw [hc] at hc'
  have hl' := rep_int hl'
  have hc' := rep_int hc'
  obtain ⟨hu, he, hpos⟩ := hG.sl t _ ht
  obtain ⟨i0, z, hi0, hs0, hby, hz, hzc⟩ := hG.info _ _ he
  obtain ⟨k, rfl⟩ : ∃ k : Nat, n = k := ⟨n.toNat, by have := hn.1; omega⟩
  have hk : k ≤ 1000000 := by have := hn.2; omega
  obtain ⟨w', hr, hown, hg⟩ := run_make_full (P := C.P) w 0 t (G.el t) i0 z 1 hu hi0 hz hs0 .i64 .i64 k (by have := Nat.mul_le_mul hby hk; omega) (by unfold maxLen; omega) (Nat.zero_le _)
  have hlt : w.heap.size < w'.heap.size := by
    rcases hown.2 with ⟨e, _⟩ | ⟨g, cap, cur, e, _, hg', _⟩
    · simp at e
    · simp only [Value.slice.injEq, Option.some.injEq, Addr.mk.injEq, and_true, true_and] at e
      obtain ⟨e1, _⟩ := e
      rw [e1]
      exact (Array.getElem?_eq_some_iff.1 hg').1
  let x : Sl := ⟨some ⟨w.heap.size, 0, none⟩, k, k⟩
  have hx : ∀ b, x.v.ownBlock = some b → b = w.heap.size := fun b hb => by
    simp only [x, Sl.v, Value.ownBlock, Option.some.injEq] at hb
    exact hb.symm
  refine ⟨x.v, w', newGam γ d x (fun _ => ⟨none, 0, 0⟩) w.heap.size, run_v (by rw [hl', hc']; exact hr), rel_new h hd x _ hg (fun b hb => ⟨hx b hb, by rw [hx b hb]; exact hlt⟩) ⟨hf, ?_, ?_, fun i xs hi => ?_⟩, by simp only [svRep, bvRep]; rw [newGam_hd]⟩
  · rw [newGam_hd, List.length_replicate, Int.toNat_natCast]
    have hcells : (madeCells z.cells (k * 1)).toList = rowsOf (newGam γ d x (fun _ => ⟨none, 0, 0⟩) w.heap.size) d k := by
      have hz' : z.cells.toList = Sh.cells (.sl sh) (Sh.zero (.sl sh)) := hzc
      have h1 := made_flat z.cells hz' (by simp [Sh.size]) k
      rw [show (Sh.sl sh).size = 1 from rfl] at h1
      rw [h1]
      have hr0 : (newGam γ d x (fun _ => ⟨none, 0, 0⟩) w.heap.size).rows d = fun _ => Value.slice none 0 0 := funext fun i => newGam_rows γ d x _ _ i
      simp only [rowsOf, Sh.cells]
      rw [hr0, List.map_const', List.length_range]
      exact replicate_flatMap _ k
    rw [← hcells]
    exact hown
  · rw [newGam_hd]
    exact newGam_own h hx
  · rw [List.getElem?_replicate] at hi
    split at hi
    · simp only [Option.some.injEq] at hi
      subst hi
      unfold rowRep
      rw [newGam_rows]
      exact ⟨World.ownsRow_nil _ _ _ _, fun k hk => by simp [Sl.v, Value.ownBlock] at hk⟩
    · cases hi
/-! ### A slice that is made where the order is open: its place has a name of its own -/
def mkGam (γ : Gam) (d k : Nat) : Gam := { γ with own := fun b => if b = k then some (.mk d) else γ.own b }

theorem w_mk_flat (hG : LangOK C.P G) (h : Rel C γ s a w) {dd : Option Tmp} {d : Nat} {t : TypeId} {l c : Operand} {ty : TypeId} {pos : String} {af : Array Edge} {gd : Option (Nat × Bool)} {sh : Sh} {n : Int}
    (hl : ev s l = .one (.val .int n)) (hc : ev s c = .one (.val .int n)) (ht : G.sh t = some (.sl sh)) (hn : cutOK n 1000000) (hf : sh.flat = true) :
    ∃ v w' γ', (execOp a.eval ⟨dd, .makeSlice t l c, ty, pos, af, gd⟩).run C.P w = .ok (.value v) w' ∧
      Rel C γ' s a w' ∧ svRep C γ' w' (.one (.mk d (G.el t) sh (List.replicate n.toNat sh.zero))) v := by
  have hl' := ev_rep h l
  have hc' := ev_rep h c
  rw [hl] at hl'
  rw [hc] at hc'
  have hl' := rep_int hl'
  have hc' := rep_int hc'
  obtain ⟨hu, he, hpos⟩ := hG.sl t sh ht
  obtain ⟨i0, z, hi0, hs0, hby, hz, hzc⟩ := hG.info _ sh he
  obtain ⟨k, rfl⟩ : ∃ k : Nat, n = k := ⟨n.toNat, by have := hn.1; omega⟩
  have hk : k ≤ 1000000 := by have := hn.2; omega
  obtain ⟨w', hr, hown, hg⟩ := run_make_full (P := C.P) w 0 t (G.el t) i0 z sh.size hu hi0 hz hs0 .i64 .i64 k (by have := Nat.mul_le_mul hby hk; omega) (by unfold maxLen; omega) (Nat.zero_le _)
  have hlt : w.heap.size < w'.heap.size := own_lt hown rfl
  have hsame : ∀ b, b < w.heap.size → (mkGam γ d w.heap.size).own b = γ.own b := fun b hb => by
    simp only [mkGam]
    rw [if_neg (by omega)]
  have hblk : ∀ b, b < w.heap.size → w'.heap[b]? = w.heap[b]? := fun b hb => hg.block b hb (by simp)
  have m : Move C γ w (mkGam γ d w.heap.size) w' (fun _ => False) :=
    ⟨⟨hg.size, fun b hb hz => ⟨⟨hz.1, by rw [hsame b hb]; exact hz.2⟩, hblk b hb⟩, fun b e hb ho => ⟨by rw [hsame b hb]; exact ho, hblk b hb⟩⟩,
      ⟨hg.os.trans h.keep.os, hg.tape.trans h.keep.tape, hg.output.trans h.keep.output, Nat.le_trans h.keep.size hg.size, fun k hk hL => (hg.block k (Nat.lt_of_lt_of_le hk h.keep.size) (by simp)).trans (h.keep.block k hk hL)⟩,
      fun k l hk => by
        simp only [mkGam] at hk
        split at hk
        · rename_i e; rw [e]; exact hlt
        · exact Nat.lt_of_lt_of_le (h.ownlt k l hk) hg.size,
      h.lent, fun _ _ => rfl, fun _ _ _ => rfl, fun _ => rfl, fun b l hb _ => ⟨by rw [hsame b (h.ownlt b l hb)]; exact hb, hblk b (h.ownlt b l hb)⟩⟩
  refine ⟨_, w', mkGam γ d w.heap.size, run_v (by rw [hl', hc']; exact hr), ?_, hf, ?_, fun b hb => ?_⟩
  · have hK : Forgets (fun b => b) γ (mkGam γ d w.heap.size) := fun b => .inr ⟨rfl, by cases b <;> simp [Agree, Gam.hd, Gam.rows, mkGam]⟩
    have := m.rel h hK (roots' := s.roots) (fun p rc hp => .inl ⟨fun h => h, hp⟩)
    have e1 : (fun i => mapSV (fun b => b) (s.env i)) = s.env := funext fun i => mapSV_id _
    have e2 : (fun b => (s.boxes b).map (mapSV fun b => b)) = s.boxes := funext fun b => by
      cases s.boxes b with
      | none => rfl
      | some sv => simp [mapSV_id]
    rw [e1, e2] at this
    exact this
  · rw [List.length_replicate, Int.toNat_natCast]
    have hcells : (madeCells z.cells (k * sh.size)).toList = (List.replicate k sh.zero).flatMap sh.cells := by
      have hz' : z.cells.toList = sh.cells sh.zero := hzc
      exact made_flat z.cells hz' hpos.1 k
    rw [← hcells]
    exact hown
  · simp only [Value.ownBlock, Option.some.injEq] at hb
    subst hb
    exact ⟨by simp [mkGam], .inl h.keep.size⟩

def killMk (d : Nat) (b : BV) : BV := match b with
  | .mk e _ _ _ => if e = d then .any else b
  | b => b

/-- The slice's header gets a root's name: from now on it may be written. -/
def thaw (s : AS) (i d r : Nat) (e : TypeId) (sh : Sh) (xs : List sh.T) : AS := (((s.map (killMk d)).map (killR r)).setRoot r (some (.flat e sh xs))).put (some i) (.one (.ref r))

theorem thaw_rel (h : Rel C γ s a w) {i d r : Nat} {e : TypeId} {sh : Sh} {xs : List sh.T} (hi : s.env i = .one (.mk d e sh xs)) (hr : C.nl ≤ r) : ∃ γ', Rel C γ' (thaw s i d r e sh xs) a w := by
  have hv := h.env i
  rw [hi] at hv
  obtain ⟨hf, hown, hob⟩ := hv
  obtain ⟨ad, cap, e0, h1, h2⟩ := own_slice hown
  let x : Sl := ⟨ad, xs.length, cap⟩
  have hx : x.v = a.tmps.getD i undef := e0.symm
  let γ' : Gam := ⟨upd γ.hs r x, γ.rs, γ.bx, fun b => if x.v.ownBlock = some b then some (.hd r) else γ.own b⟩
  have hmk : ∀ b, x.v.ownBlock = some b → γ.own b = some (.mk d) := fun b hb => (hob b (by rw [← hx]; exact hb)).1
  have hne : ∀ b, γ.own b ≠ some (.mk d) → γ'.own b = γ.own b := fun b hb => by
    simp only [γ']
    rw [if_neg (fun e => hb (hmk b e))]
  have hhd : ∀ p, p ≠ r → γ'.hd p = γ.hd p := fun p hp => by simp only [Gam.hd, γ', upd]; rw [if_neg hp]
  have hhd' : γ'.hd r = a.tmps.getD i undef := by rw [← hx]; simp [Gam.hd, γ', upd]
  -- every value that is kept stands as it did
  have keepB : ∀ (b : BV) (v : Value), bvRep C γ w b v → bvRep C γ' w (killR r (killMk d b)) v := by
    intro b v hb
    by_cases hk : killR r (killMk d b) = .any
    · rw [hk]; trivial
    have hk1 : killMk d b = b := by
      cases b <;> simp only [killMk] at hk ⊢
      split
      · rename_i e; rw [if_pos e] at hk; exact absurd rfl hk
      · rfl
    rw [hk1] at hk ⊢
    have hk2 : killR r b = b := (killR_or r b).resolve_left hk
    rw [hk2]
    have hz : ∀ b, C.zn γ b → C.zn γ' b := fun b hz => ⟨hz.1, by rw [hne b (by rw [hz.2]; simp)]; exact hz.2⟩
    have ag : Agree γ γ' b := by
      have := killR_agree (γ := γ) (γ' := γ') hk hhd (fun _ _ _ => rfl) (fun _ => rfl)
      exact this
    cases b with
    | mk d' e' s' ys =>
      obtain ⟨k1, k2, k3⟩ := hb
      have hdd : d' ≠ d := by
        intro e
        simp only [killMk, if_pos e] at hk1
        cases hk1
      exact ⟨k1, k2, fun k hk => ⟨by rw [hne k (by rw [(k3 k hk).1]; simp; exact hdd)]; exact (k3 k hk).1, (k3 k hk).2⟩⟩
    | any => trivial
    | val sh' y =>
      obtain ⟨cs, h1, h2⟩ := hb
      exact ⟨cs, pers_mono (Nat.le_refl _) (fun b _ hb => ⟨hz b hb, rfl⟩) _ _ _ h1, h2⟩
    | nils => exact hb
    | ref q => simp only [bvRep, Agree] at *; rw [ag]; exact hb
    | refi q j => simp only [bvRep, Agree] at *; rw [ag]; exact hb
    | adr q j sz => simp only [bvRep, Agree] at *; rw [ag]; exact hb
    | adri q j k sz => simp only [bvRep, Agree] at *; rw [ag]; exact hb
    | box q => exact hb
    | boxf q n f off => exact hb
    | padr sh' y =>
      obtain ⟨b, off, cs, k1, k2, k3, k4, k5⟩ := hb
      exact ⟨b, off, cs, k1, hz b k2, k3, pers_mono (Nat.le_refl _) (fun b _ hb => ⟨hz b hb, rfl⟩) _ _ _ k4, k5⟩
    | fn f caps => exact hb
    | fnv as' r' q p => exact hb
    | pfn as' r' q p =>
      obtain ⟨b, off, c, k1, k2, k3, k4, k5⟩ := hb
      exact ⟨b, off, c, k1, hz b k2, k3, k4, k5⟩
    | nilf => exact hb
    | unk => exact hb
    | lits q =>
      obtain ⟨g, cp, k1, k2, k3, k4⟩ := hb
      exact ⟨g, cp, k1, hz g k2, k3, by rw [show γ'.hd q = γ.hd q from ag]; exact k4⟩
    | skip => exact hb
  have keepBs : ∀ (bs : List BV) (vs : List Value), bvsRep C γ w bs vs → bvsRep C γ' w ((bs.map (killMk d)).map (killR r)) vs := by
    intro bs
    induction bs with
    | nil => exact fun _ h => h
    | cons b bs ih =>
      rintro vs ⟨v, vs', rfl, k1, k2⟩
      exact ⟨v, vs', rfl, keepB b v k1, ih vs' k2⟩
  have keepSV : ∀ (sv : SV) (v : Value), svRep C γ w sv v → svRep C γ' w (mapSV (killR r) (mapSV (killMk d) sv)) v := by
    intro sv v hsv
    cases sv with
    | one b => exact keepB b v hsv
    | tup bs =>
      obtain ⟨vs, k1, k2⟩ := hsv
      exact ⟨vs, k1, keepBs bs vs k2⟩
    | rcd bs =>
      obtain ⟨vs, k1, k2, k3⟩ := hsv
      exact ⟨vs, k1, keepBs bs vs k2, k3⟩
  have keepRoot : ∀ (p : Nat) (rc : RC), p ≠ r → rcRep C γ w p rc → rcRep C γ' w p rc := by
    intro p rc hp hrc
    have hB : ∀ (v : Value) (l : Loc), l ≠ .mk d → ownB C γ v l → ownB C γ' v l := fun v l hl ho k hk => ⟨by rw [hne k (by rw [(ho k hk).1]; simpa using hl)]; exact (ho k hk).1, (ho k hk).2⟩
    cases rc with
    | flat e' s' ys => exact ⟨hrc.1, by rw [hhd p hp]; exact hrc.2.1, by rw [hhd p hp]; exact hB _ _ (by simp) hrc.2.2⟩
    | deep e' e2' s' ys => exact ⟨hrc.1, by rw [hhd p hp]; exact hrc.2.1, by rw [hhd p hp]; exact hB _ _ (by simp) hrc.2.2.1, fun k zs hk => ⟨(hrc.2.2.2 k zs hk).1, hB _ _ (by simp) (hrc.2.2.2 k zs hk).2⟩⟩
    | hole e' e2' s' ys m => exact ⟨hrc.1, by rw [hhd p hp]; exact hrc.2.1, by rw [hhd p hp]; exact hB _ _ (by simp) hrc.2.2.1, fun k zs hn hk => ⟨(hrc.2.2.2 k zs hn hk).1, hB _ _ (by simp) (hrc.2.2.2 k zs hn hk).2⟩⟩
  refine ⟨γ', h.defers, h.keep, fun k l hk => ?_, fun q hq => ?_, fun j => ?_, fun p rc hp => ?_, fun b sv hb => ?_⟩
  · simp only [γ'] at hk
    split at hk
    · rename_i e; exact h.ownlt k _ (hmk k e)
    · exact h.ownlt k l hk
  · rw [hhd q (by omega)]
    exact h.lent q hq
  · simp only [thaw, AS.put, upd]
    split
    · rename_i e
      subst e
      exact hhd'.symm
    · exact keepSV _ _ (h.env j)
  · simp only [thaw, AS.put, AS.setRoot, AS.map, upd] at hp
    split at hp
    · rename_i e
      subst e
      simp only [Option.some.injEq] at hp
      subst hp
      refine ⟨hf, by rw [hhd']; exact hown, ?_⟩
      intro k hk
      rw [hhd', ← hx] at hk
      exact ⟨by simp only [γ']; rw [if_pos hk], (hob k (by rw [← hx]; exact hk)).2⟩
    · rename_i e
      exact keepRoot p rc e (h.roots p rc hp)
  · simp only [thaw, AS.put, AS.setRoot, AS.map, Option.map_map, Option.map_eq_some_iff] at hb
    obtain ⟨sv', k1, rfl⟩ := hb
    obtain ⟨cs, t, d1, d2, d3, d4, d5⟩ := h.boxes b sv' k1
    refine ⟨cs, t, d1, ?_, d3, by show γ'.own (γ.bx b) = _; rw [hne _ (by rw [d4]; simp)]; exact d4, d5⟩
    cases sv' with
    | one b' =>
      obtain ⟨v, e1, e2⟩ := d2
      exact ⟨v, keepB b' v e1, e2⟩
    | tup bs => exact d2
    | rcd bs => exact keepBs bs _ d2

/-! ### Append -/
theorem run_append_zero {P : Program} {w : World} {t ty e : TypeId} {i : TypeInfo} (ht : P.underlying t = some (.slice e)) (hi : P.info? e = some i) {sz n : Nat} {v : Value} {xs : List Value} (h : w.ownsRow 0 e sz v n xs) (ad : Option Addr) (c : Nat) :
    (Builtin.append_ #[t, t] ty #[v, .slice ad 0 c]).run P w = .ok v w := by
  rcases h.2 with ⟨rfl, rfl⟩ | ⟨g, cap, cur, rfl, _, _, hnc, _⟩
  · cases ad <;> simp [Builtin.append_, run_underlying ht, sizeOf, typeInfo, hi, Builtin.lenOf, Builtin.firstCells, loadCells, loadCellsFrom]
  · cases ad <;> simp [Builtin.append_, run_underlying ht, sizeOf, typeInfo, hi, Builtin.lenOf, Builtin.firstCells, hnc, storeCells, loadCells, loadCellsFrom]

/-- What an append to an owned row leaves: the same block, or one new block. -/
theorem append_core {P : Program} {w : World} {t ty e : TypeId} {i : TypeInfo} {z : Value} (ht : P.underlying t = some (.slice e)) (hi : P.info? e = some i) (hz : i.zero = some z) {sz : Nat} (hsz : i.size = sz) (hzs : z.cells.size = sz)
    {v : Value} {n : Nat} {xs : List Value} (h : w.ownsRow 0 e sz v n xs) (ad : Option Addr) (m c : Nat) (news : List Value) (hl : news.length = m * sz) (hnews : ∀ a, ad = some a → ∀ j u, news[j]? = some u → w.cell? (a.add j) = some u)
    (hsome : 0 < m → ad ≠ none) (h1 : ∀ u ∈ news, u.oneCell' = true) (hby : i.bytes ≤ 1024) (hn : n ≤ 1000000) (hm : m ≤ 1000000) :
    ∃ (x : Sl) (w' : World), (Builtin.append_ #[t, t] ty #[v, .slice ad m c]).run P w = .ok x.v w' ∧ w'.ownsRow 0 e sz x.v (n + m) (xs ++ news) ∧
      ((x.v.ownBlock = v.ownBlock ∧ w.grownBy w' v.ownBlock) ∨ (x.v.ownBlock = some w.heap.size ∧ w.heap.size < w'.heap.size ∧ w.grownBy w' none)) := by
  rcases Nat.eq_zero_or_pos m with rfl | hpos
  · obtain ⟨a0, cp, e0, _⟩ := own_slice h
    have hnil : news = [] := by simpa using hl
    subst hnil
    refine ⟨⟨a0, n, cp⟩, w, ?_, ?_, .inl ⟨?_, ⟨rfl, rfl, rfl, Nat.le_refl _, fun _ _ _ => rfl⟩⟩⟩
    · rw [run_append_zero ht hi h ad c, e0]; rfl
    · rw [Nat.add_zero, List.append_nil]
      have : (⟨a0, n, cp⟩ : Sl).v = v := e0.symm
      rw [this]; exact h
    · rw [e0]; rfl
  · obtain ⟨a, rfl⟩ : ∃ a, ad = some a := by
      cases ad with
      | none => exact absurd rfl (hsome hpos)
      | some a => exact ⟨a, rfl⟩
    have hnews' := hnews a rfl
    subst hsz
    have hb : (n + m) * i.bytes ≤ 140737488355328 := by
      have := Nat.mul_le_mul (show n + m ≤ 2000000 by omega) hby
      omega
    have grown : ∀ (old : Nat) , old < n + m →
        (w.drew.alloc (.cells (xs.toArray ++ news.toArray ++ Builtin.zeroCells z.cells (grownCap w (n + m) old e - (n + m))) e)).ownsRow 0 e i.size
          (.slice (some ⟨w.heap.size, 0, none⟩) (n + m) (grownCap w (n + m) old e)) (n + m) (xs ++ news) := by
      intro old ho
      have hge := grownCap_ge w (n + m) old e
      have hcm : grownCap w (n + m) old e ≤ maxLen := grownCap_le_maxLen w (n + m) old e (by unfold maxLen; omega)
      refine ⟨by rw [List.length_append, h.1, hl, Nat.add_mul], .inr ⟨w.heap.size, _, _, rfl, Nat.zero_le _, heap_alloc_new w.drew _, hge, hcm, ?_, ?_⟩⟩
      · simp only [Array.size_append, List.size_toArray, size_zeroCells, hzs, h.1, hl, ← Nat.add_mul]
        congr 1
        omega
      · have : (xs ++ news).length = (n + m) * i.size := by rw [List.length_append, h.1, hl, Nat.add_mul]
        simp only [Array.toList_append]
        rw [← this]
        exact List.take_left
    rcases h.2 with ⟨rfl, rfl⟩ | ⟨g, cap, cur, rfl, hb0, hg, hnc, hcm, hcs, htake⟩
    · have hx : xs = [] := by simpa using h.1
      subst hx
      have hr := run_append_nil (P := P) w t ty e i z ht hi hz a m c news hl hnews' hpos (by omega) (by rw [Nat.zero_add] at hb; omega)
      have hg := grown 0 (by omega)
      simp only [Nat.zero_add, List.nil_append] at hg ⊢
      refine ⟨⟨some ⟨w.heap.size, 0, none⟩, m, grownCap w m 0 e⟩, _, hr, by simpa [Sl.v] using hg, .inr ⟨rfl, by simp, ⟨rfl, rfl, rfl, by simp, fun k hk _ => Below.heap_alloc w.drew _ k hk⟩⟩⟩
    · rcases Nat.lt_or_ge cap (n + m) with hcap | hcap
      · have holds : ∀ j u, xs[j]? = some u → w.cell? ((⟨g, 0, none⟩ : Addr).add j) = some u := fun j u hj => by
          rw [Addr.add_lit, Nat.zero_add]
          exact own_cell h hj
        have hfit := growslice_fits (old := cap) hcap hb
        have hr := run_append_grow (P := P) w t ty e i z ht hi hz ⟨g, 0, none⟩ n cap xs h.1 holds a m c news hl hnews' hcap (by omega) hfit
        exact ⟨⟨some ⟨w.heap.size, 0, none⟩, n + m, grownCap w (n + m) cap e⟩, _, hr, grown cap hcap, .inr ⟨rfl, by simp, ⟨rfl, rfl, rfl, by simp, fun k hk _ => Below.heap_alloc w.drew _ k hk⟩⟩⟩
      · obtain ⟨w', hr, ho, hgr⟩ := run_append_fits (P := P) w 0 t ty e i i.size ht hi rfl g n cap xs h a m c news hl hnews' h1 hcap
        exact ⟨⟨some ⟨g, 0, none⟩, n + m, cap⟩, w', hr, ho, .inl ⟨rfl, hgr⟩⟩

theorem exec_append {P : Program} {w w' : World} {a : Act} {t ty : TypeId} {x y : Operand} {d : Option Tmp} {pos : String} {af : Array Edge} {gd : Option (Nat × Bool)} {v : Value}
    (h : (Builtin.append_ #[t, t] ty #[a.eval x, a.eval y]).run P w = .ok v w') : (execOp a.eval ⟨d, .call { callee := .builtin .append, args := #[x, y], argTypes := #[t, t] }, ty, pos, af, gd⟩).run P w = .ok (.value v) w' := by
  simp only [execOp, resolve, invoke, builtin]
  simp [h]
end
end Go.VS
