/- Value semantics, part J: appends and new variables are sound; all writing operations together. Over any program; no condition. -/
import Derived.Test.YtaldpinkkgdklaaVsI
namespace Go.VS
open Go.RowKit
set_option linter.unusedSimpArgs false
set_option linter.unusedVariables false

section
variable {C : Ctx} {G : Lang} {γ γ' : Gam} {s : AS} {a : Act} {w w' : World}

/-- What is appended: its length, and where its cells lie. -/
theorem src_rep (hG : LangOK C.P G) (h : Rel C γ s a w) {t : TypeId} {sv : SV} {sh : Sh} {ys : List sh.T} (hl : lens G s t sv = some ⟨sh, ys⟩) (hf : sh.flat = true) (hpos : 0 < sh.size) {v : Value} (hv : svRep C γ w sv v) :
    ∃ ad c, v = .slice ad ys.length c ∧ (0 < ys.length → ad ≠ none) ∧ ∀ b, ad = some b → ∀ j u, (ys.flatMap sh.cells)[j]? = some u → w.cell? (b.add j) = some u := by
  have split : ∀ (j : Nat) (u : Value), (ys.flatMap sh.cells)[j]? = some u → j / sh.size < ys.length ∧ ∀ hi : j / sh.size < ys.length, (sh.cells ys[j / sh.size])[j % sh.size]? = some u := by
    intro j u hj
    have hlt := (List.getElem?_eq_some_iff.1 hj).1
    rw [flatMap_len sh.cells sh.size (cells_len sh)] at hlt
    have h1 : j / sh.size < ys.length := (Nat.div_lt_iff_lt_mul hpos).2 hlt
    refine ⟨h1, fun hi => ?_⟩
    have h3 : j = (j / sh.size) * sh.size + j % sh.size := by rw [Nat.mul_comm]; exact (Nat.div_add_mod j sh.size).symm
    have h4 := flatMap_get sh.cells sh.size (cells_len sh) ys (j / sh.size) (j % sh.size) h1 (Nat.mod_lt _ hpos)
    rw [← h3, hj] at h4
    exact h4.symm
  have owned : ∀ {e : TypeId} {v : Value}, w.ownsRow 0 e sh.size v ys.length (ys.flatMap sh.cells) → ∃ ad c, v = .slice ad ys.length c ∧ (0 < ys.length → ad ≠ none) ∧ ∀ b, ad = some b → ∀ j u, (ys.flatMap sh.cells)[j]? = some u → w.cell? (b.add j) = some u := by
    intro e v hown
    rcases hown.2 with ⟨rfl, h2⟩ | ⟨g, cap, cur, rfl, hr⟩
    · exact ⟨none, 0, by rw [h2], fun h3 => by omega, fun b hb => by cases hb⟩
    · refine ⟨some ⟨g, 0, none⟩, cap, rfl, fun _ => by simp, fun b hb j u hj => ?_⟩
      simp only [Option.some.injEq] at hb
      subst hb
      rw [Addr.add_lit, Nat.zero_add]
      exact own_cell hown hj
  unfold lens at hl
  split at hl
  · rename_i sh' xs
    simp only [Option.some.injEq, Sigma.mk.injEq] at hl
    obtain ⟨rfl, hl⟩ := hl
    simp only [heq_eq_eq] at hl
    subst hl
    obtain ⟨cs, ⟨ad, cap, rfl, hc, hm, hall⟩, hv'⟩ := hv
    refine ⟨ad, cap, by rw [hv']; rfl, fun h0 => ?_, fun b hb j u hj => ?_⟩
    · obtain ⟨b, off, c, e, _⟩ := hall 0 h0
      rw [e]; simp
    · obtain ⟨h1, h2⟩ := split j u hj
      obtain ⟨b', off, c, e, hz, hlt, hp, hcell⟩ := hall (j / sh'.size) h1
      rw [hb] at e
      simp only [Option.some.injEq] at e
      subst e
      rw [Addr.add_lit]
      have hc' := (pers_flat sh' _ c hf).1 hp
      have h3 := hcell (j % sh'.size) u (by rw [hc']; exact h2 h1)
      have h4 : (j / sh'.size) * sh'.size + j % sh'.size = j := by rw [Nat.mul_comm]; exact Nat.div_add_mod j sh'.size
      rw [h4] at h3
      exact h3
  · split at hl
    · rename_i sh' ht
      simp only [Option.some.injEq, Sigma.mk.injEq] at hl
      obtain ⟨rfl, hl⟩ := hl
      simp only [heq_eq_eq] at hl
      subst hl
      simp only [svRep, bvRep] at hv
      exact ⟨none, 0, hv, fun h0 => by simp at h0, fun b hb => by cases hb⟩
    · cases hl
  · split at hl
    · rename_i r e sh' xs hr
      simp only [Option.some.injEq, Sigma.mk.injEq] at hl
      obtain ⟨rfl, hl⟩ := hl
      simp only [heq_eq_eq] at hl
      subst hl
      simp only [svRep, bvRep] at hv
      rw [hv]
      exact owned (h.roots _ _ hr).2.1
    · cases hl
  · split at hl
    · rename_i r i _ e e2 sh' xss hr
      split at hl
      · rename_i hi
        simp only [Option.some.injEq, Sigma.mk.injEq] at hl
        obtain ⟨rfl, hl⟩ := hl
        simp only [heq_eq_eq] at hl
        subst hl
        simp only [svRep, bvRep] at hv
        rw [hv]
        have hgi : xss.getD i [] = xss[i] := by simp [List.getD_eq_getElem?_getD, hi]
        rw [hgi] at owned ⊢
        exact owned ((h.roots _ _ hr).2.2.2 i _ (by simp [hi])).1
      · cases hl
    · cases hl
  · cases hl

theorem flatMap_one {sh : Sh} (ys : List sh.T) : ∀ u ∈ ys.flatMap sh.cells, u.oneCell' = true := by
  intro u hu
  obtain ⟨y, _, h2⟩ := List.mem_flatMap.1 hu
  exact cells_one sh y u h2

/-- The header of root d becomes x, which lies in the same block, or in the next new one; the rows of d become rs. -/
def reGam (γ : Gam) (d : Nat) (x : Sl) (k : Nat) : Gam := ⟨upd γ.hs d x, γ.rs, γ.bx, fun b => if x.v.ownBlock = some b ∧ b = k then some (.hd d) else γ.own b⟩

theorem reGam_move (h : Rel C γ s a w) {d : Nat} (hd : C.nl ≤ d) (x : Sl) (hob : ownB C γ (γ.hd d) (.hd d))
    (hx : (x.v.ownBlock = (γ.hd d).ownBlock ∧ w.grownBy w' (γ.hd d).ownBlock) ∨ (x.v.ownBlock = some w.heap.size ∧ w.heap.size < w'.heap.size ∧ w.grownBy w' none)) :
    Move C γ w (reGam γ d x w.heap.size) w' (fun p => p = d) ∧ ownB C (reGam γ d x w.heap.size) x.v (.hd d) ∧ (∀ b l, γ.own b = some l → (reGam γ d x w.heap.size).own b = some l) := by
  have hsame : ∀ b, b < w.heap.size → (reGam γ d x w.heap.size).own b = γ.own b := fun b hb => by
    simp only [reGam]
    rw [if_neg (fun e => by omega)]
  have hkeep : ∀ b l, γ.own b = some l → (reGam γ d x w.heap.size).own b = some l := fun b l hb => by rw [hsame b (h.ownlt b l hb)]; exact hb
  have hblk : ∀ b, b < w.heap.size → γ.own b ≠ some (.hd d) → w'.heap[b]? = w.heap[b]? := by
    intro b hb hne
    rcases hx with ⟨_, hg⟩ | ⟨_, _, hg⟩
    · refine hg.block b hb (fun e => hne (hob b e.symm).1)
    · exact hg.block b hb (by simp)
  have hos : w'.os = w.os ∧ w'.tape = w.tape ∧ w'.output = w.output ∧ w.heap.size ≤ w'.heap.size := by
    rcases hx with ⟨_, hg⟩ | ⟨_, _, hg⟩ <;> exact ⟨hg.os, hg.tape, hg.output, hg.size⟩
  refine ⟨⟨⟨hos.2.2.2, fun b hb hz => ⟨⟨hz.1, by rw [hsame b hb]; exact hz.2⟩, hblk b hb (by rw [hz.2]; simp)⟩, fun b d hb ho => ⟨by rw [hsame b hb]; exact ho, hblk b hb (by rw [ho]; simp)⟩⟩, ⟨hos.1.trans h.keep.os, hos.2.1.trans h.keep.tape, hos.2.2.1.trans h.keep.output, Nat.le_trans h.keep.size hos.2.2.2, fun k hk hL => ?_⟩, fun k l hk => ?_, fun r hr => ?_, fun p hp => ?_, fun p i hp => rfl, fun _ => rfl, fun b l hb hl => ⟨hkeep b l hb, hblk b (h.ownlt b l hb) ?_⟩⟩, fun k hk => ?_, hkeep⟩
  · rcases hx with ⟨_, hg⟩ | ⟨_, _, hg⟩
    · rw [hg.block k (Nat.lt_of_lt_of_le hk h.keep.size) (fun e => by
        rcases (hob k e.symm).2 with h1 | h1
        · omega
        · exact hL h1)]
      exact h.keep.block k hk hL
    · rw [hg.block k (Nat.lt_of_lt_of_le hk h.keep.size) (by simp)]
      exact h.keep.block k hk hL
  · simp only [reGam] at hk
    split at hk
    · rename_i e
      rcases hx with ⟨h1, hg⟩ | ⟨h1, h2, hg⟩
      · rw [h1] at e
        have := h.ownlt k _ (hob k e.1).1
        omega
      · omega
    · exact Nat.lt_of_lt_of_le (h.ownlt k l hk) hos.2.2.2
  · simp only [Gam.hd, reGam, upd]
    rw [if_neg (by omega)]
    exact h.lent r hr
  · simp only [Gam.hd, reGam, upd]
    rw [if_neg hp]
  · rw [hb]
    intro e
    simp only [Option.some.injEq] at e
    subst e
    exact hl d rfl rfl
  · rcases hx with ⟨h1, hg⟩ | ⟨h1, h2, hg⟩
    · rw [h1] at hk
      exact ⟨hkeep k _ (hob k hk).1, (hob k hk).2⟩
    · rw [h1] at hk
      simp only [Option.some.injEq] at hk
      subst hk
      exact ⟨by simp only [reGam]; rw [if_pos ⟨h1, trivial⟩], .inl h.keep.size⟩

theorem reGam_hd (γ : Gam) (d : Nat) (x : Sl) (k : Nat) : (reGam γ d x k).hd d = x.v := by simp [reGam, Gam.hd, upd]

/-- 'out = append(out, xs...)', out an owned slice of data. -/
theorem w_append_flat (hG : LangOK C.P G) (h : Rel C γ s a w) {d : Option Tmp} {t : TypeId} {x y : Operand} {ty : TypeId} {pos : String} {af : Array Edge} {gd : Option (Nat × Bool)} {r : Nat} {sh : Sh} {xs ys : List sh.T}
    (hx : ev s x = .one (.ref r)) (hr : s.roots r = some (.flat (G.el t) sh xs)) (hy : lens G s t (ev s y) = some ⟨sh, ys⟩) (ht : G.sh t = some (.sl sh)) (hd : C.nl ≤ r) (hn : xs.length ≤ 1000000) (hm : ys.length ≤ 1000000) :
    ∃ v w' γ', (execOp a.eval ⟨d, .call { callee := .builtin .append, args := #[x, y], argTypes := #[t, t] }, ty, pos, af, gd⟩).run C.P w = .ok (.value v) w' ∧
      Rel C γ' ((s.map (killR r)).setRoot r (some (.flat (G.el t) sh (xs ++ ys)))) a w' ∧ svRep C γ' w' (.one (.ref r)) v := by
  have hx' := ev_rep h x
  rw [hx] at hx'
  simp only [svRep, bvRep] at hx'
  obtain ⟨hu, he, hpos⟩ := hG.sl t sh ht
  obtain ⟨i0, z, hi0, hs0, hby, hz, hzc⟩ := hG.info _ sh he
  have hzs : z.cells.size = sh.size := by have := congrArg List.length hzc; rw [cells_len] at this; simpa using this
  obtain ⟨hf, hown, hob⟩ := h.roots r _ hr
  obtain ⟨ad, c, hv, hne, hcells⟩ := src_rep hG h hy hf hpos.1 (ev_rep h y)
  obtain ⟨X, w', hrun, hown', hX⟩ := append_core (ty := ty) hu hi0 hz hs0 hzs hown ad ys.length c (ys.flatMap sh.cells) (flatMap_len sh.cells sh.size (cells_len sh) ys) hcells hne (flatMap_one ys) hby hn hm
  obtain ⟨m, ho, _⟩ := reGam_move h hd X hob hX
  refine ⟨X.v, w', reGam γ r X w.heap.size, exec_append (by rw [hx', hv]; exact hrun), ?_, by simp only [svRep, bvRep]; rw [reGam_hd]⟩
  refine m.rel h (forgets_killR (fun q hq => m.hd q hq) (fun q i hq => m.rows q i hq) m.bx) (fun p rc' hp => ?_)
  simp only [AS.map, upd] at hp
  split at hp
  · rename_i e
    subst e
    simp only [Option.some.injEq] at hp
    subst hp
    right
    refine ⟨hf, ?_, ?_⟩ <;> rw [reGam_hd]
    · rw [List.length_append, List.flatMap_append]; exact hown'
    · exact ho
  · rename_i e
    exact .inl ⟨e, hp⟩

/-- 'append(nil, xs...)'. -/
theorem w_append_nil (hG : LangOK C.P G) (h : Rel C γ s a w) {d : Nat} {t : TypeId} {x y : Operand} {ty : TypeId} {pos : String} {af : Array Edge} {gd : Option (Nat × Bool)} {sh : Sh} {ys : List sh.T}
    (hx : ev s x = .one .nils) (hy : lens G s t (ev s y) = some ⟨sh, ys⟩) (ht : G.sh t = some (.sl sh)) (hf : sh.flat = true) (hd : C.nl ≤ d) (hm : ys.length ≤ 1000000) :
    ∃ v w' γ', (execOp a.eval ⟨some d, .call { callee := .builtin .append, args := #[x, y], argTypes := #[t, t] }, ty, pos, af, gd⟩).run C.P w = .ok (.value v) w' ∧
      Rel C γ' ((s.map (killR d)).setRoot d (some (.flat (G.el t) sh ys))) a w' ∧ svRep C γ' w' (.one (.ref d)) v := by
  have hx' := ev_rep h x
  rw [hx] at hx'
  simp only [svRep, bvRep] at hx'
  obtain ⟨hu, he, hpos⟩ := hG.sl t sh ht
  obtain ⟨i0, z, hi0, hs0, hby, hz, hzc⟩ := hG.info _ sh he
  have hzs : z.cells.size = sh.size := by have := congrArg List.length hzc; rw [cells_len] at this; simpa using this
  obtain ⟨ad, c, hv, hne, hcells⟩ := src_rep hG h hy hf hpos.1 (ev_rep h y)
  obtain ⟨X, w', hrun, hown', hX⟩ := append_core (ty := ty) hu hi0 hz hs0 hzs (World.ownsRow_nil w 0 (G.el t) sh.size) ad ys.length c (ys.flatMap sh.cells) (flatMap_len sh.cells sh.size (cells_len sh) ys) hcells hne (flatMap_one ys) hby (by omega) hm
  have hg : w.grownBy w' none := by rcases hX with ⟨_, hg⟩ | ⟨_, _, hg⟩ <;> exact hg
  have hXb : ∀ b, X.v.ownBlock = some b → b = w.heap.size ∧ b < w'.heap.size := by
    intro b hb
    rcases hX with ⟨h1, _⟩ | ⟨h1, h2, _⟩
    · rw [h1] at hb; simp [Value.ownBlock] at hb
    · rw [h1] at hb
      simp only [Option.some.injEq] at hb
      subst hb
      exact ⟨rfl, h2⟩
  refine ⟨X.v, w', newGam γ d X (γ.rs d) w.heap.size, exec_append (by rw [hx', hv]; exact hrun), rel_new h hd X (γ.rs d) hg hXb ⟨hf, ?_, ?_⟩, by simp only [svRep, bvRep]; rw [newGam_hd]⟩
  · rw [newGam_hd]
    simpa using hown'
  · rw [newGam_hd]
    exact newGam_own h (fun b hb => (hXb b hb).1)

/-- The row q becomes row n of r, whose header becomes x. -/
def rowGam (γ : Gam) (r q n : Nat) (x : Sl) (k : Nat) : Gam :=
  ⟨upd γ.hs r x, fun p i => if p = r ∧ i = n then γ.hs q else γ.rs p i, γ.bx, fun b => if (γ.hd q).ownBlock = some b then some (.row r n) else if x.v.ownBlock = some b ∧ b = k then some (.hd r) else γ.own b⟩

theorem rowsOf_congr {γ γ' : Gam} {r n : Nat} (h : ∀ i, i < n → γ'.rows r i = γ.rows r i) : rowsOf γ' r n = rowsOf γ r n := by
  unfold rowsOf
  exact List.map_congr_left fun i hi => h i (List.mem_range.1 hi)

theorem rowsOf_succ (γ : Gam) (r n : Nat) : rowsOf γ r (n + 1) = rowsOf γ r n ++ [γ.rows r n] := by simp [rowsOf, List.range_succ]

/-- 'out = append(out, row)', both owned: the row becomes a part of the table. -/
theorem append_row_core (hG : LangOK C.P G) (h : Rel C γ s a w) {d : Option Tmp} {t : TypeId} {x y : Operand} {ty : TypeId} {pos : String} {af : Array Edge} {gd : Option (Nat × Bool)} {r q : Nat} {e2 : TypeId} {sh : Sh} {xss : List (List sh.T)} {ys : List sh.T}
    {v0 : Value} (hx : a.eval x = v0) (hown : w.ownsRow 0 (G.el t) 1 v0 xss.length (rowsOf γ r xss.length)) (hob : ownB C γ v0 (.hd r)) (hv0 : ∀ b, v0.ownBlock = some b → v0 = γ.hd r) (hrows : ∀ i xs, xss[i]? = some xs → rowRep C γ w r e2 sh i xs)
    (hy : ev s y = .one (.lits q)) (hq : s.roots q = some (.flat e2 sh ys)) (ht : G.sh t = some (.sl (.sl sh))) (hf : sh.flat = true) (hd : C.nl ≤ r) (hdq : C.nl ≤ q) (hne : r ≠ q) (hn : xss.length ≤ 1000000) :
    ∃ v w' γ', (execOp a.eval ⟨d, .call { callee := .builtin .append, args := #[x, y], argTypes := #[t, t] }, ty, pos, af, gd⟩).run C.P w = .ok (.value v) w' ∧
      Rel C γ' (((s.map (killR q)).map (killR r)).setRoot q none |>.setRoot r (some (.deep (G.el t) e2 sh (xss ++ [ys])))) a w' ∧ svRep C γ' w' (.one (.ref r)) v := by
  obtain ⟨hu, he, hpos⟩ := hG.sl t _ ht
  obtain ⟨i0, z, hi0, hs0, hby, hz, hzc⟩ := hG.info _ _ he
  have hzs : z.cells.size = 1 := by have := congrArg List.length hzc; rw [cells_len, Array.length_toList] at this; exact this
  obtain ⟨_, hownq, hobq⟩ := h.roots q _ hq
  have hy' := ev_rep h y
  rw [hy] at hy'
  obtain ⟨g, cap, hyv, hgz, hglt, hgc⟩ := hy'
  obtain ⟨X, w', hrun, hown', hX⟩ := append_core (ty := ty) hu hi0 hz hs0 hzs hown (some ⟨g, 0, none⟩) 1 cap [γ.hd q] rfl (fun b hb j u hj => by
      simp only [Option.some.injEq] at hb
      subst hb
      cases j with
      | zero => simp only [List.getElem?_cons_zero, Option.some.injEq] at hj; subst hj; rw [Addr.add_lit]; exact hgc
      | succ j => simp at hj) (fun _ => by simp) (fun u hu => by simp at hu; subst hu; rfl) hby hn (by omega)
  let γ' := rowGam γ r q xss.length X w.heap.size
  have hqlt : ∀ b, (γ.hd q).ownBlock = some b → b < w.heap.size := fun b hb => h.ownlt b _ (hobq b hb).1
  have hsame : ∀ b, b < w.heap.size → γ.own b ≠ some (.hd q) → γ'.own b = γ.own b := fun b hb hn' => by
    simp only [γ', rowGam]
    rw [if_neg (fun e => hn' (hobq b e).1), if_neg (fun e => by omega)]
  have hhd : ∀ p, p ≠ r → γ'.hd p = γ.hd p := fun p hp => by simp only [γ', rowGam, Gam.hd, upd]; rw [if_neg hp]
  have hrow : ∀ p i, ¬ (p = r ∧ i = xss.length) → γ'.rows p i = γ.rows p i := fun p i hp => by simp only [γ', rowGam, Gam.rows]; rw [if_neg hp]
  have hrown : γ'.rows r xss.length = γ.hd q := by simp [γ', rowGam, Gam.rows, Gam.hd]
  have hblk : ∀ b, b < w.heap.size → γ.own b ≠ some (.hd r) → w'.heap[b]? = w.heap[b]? := by
    intro b hb hne'
    rcases hX with ⟨_, hg⟩ | ⟨_, _, hg⟩
    · exact hg.block b hb (fun e => hne' (hob b e.symm).1)
    · exact hg.block b hb (by simp)
  have hos : w'.os = w.os ∧ w'.tape = w.tape ∧ w'.output = w.output ∧ w.heap.size ≤ w'.heap.size := by
    rcases hX with ⟨_, hg⟩ | ⟨_, _, hg⟩ <;> exact ⟨hg.os, hg.tape, hg.output, hg.size⟩
  have hXown : ownB C γ' X.v (.hd r) := by
    intro k hk
    rcases hX with ⟨h1, hg⟩ | ⟨h1, h2, hg⟩
    · rw [h1] at hk
      have h3 := hob k hk
      refine ⟨?_, h3.2⟩
      rw [hsame k (h.ownlt k _ h3.1) (by rw [h3.1]; simpa using hne)]
      exact h3.1
    · rw [h1] at hk
      simp only [Option.some.injEq] at hk
      subst hk
      refine ⟨?_, .inl h.keep.size⟩
      simp only [γ', rowGam]
      rw [if_neg (fun e => by have := hqlt _ e; omega), if_pos ⟨h1, trivial⟩]
  have hT : ∀ b l, γ.own b = some l → (∀ p, l.root = some p → ¬ (p = r ∨ p = q)) → γ.own b ≠ some (.hd q) ∧ γ.own b ≠ some (.hd r) := by
    intro b l hb hl
    rw [hb]
    constructor
    · intro e
      simp only [Option.some.injEq] at e
      subst e
      exact hl q rfl (.inr rfl)
    · intro e
      simp only [Option.some.injEq] at e
      subst e
      exact hl r rfl (.inl rfl)
  have m : Move C γ w γ' w' (fun p => p = r ∨ p = q) := by
    refine ⟨⟨hos.2.2.2, fun b hb hzb => ⟨⟨hzb.1, by rw [hsame b hb (by rw [hzb.2]; simp)]; exact hzb.2⟩, hblk b hb (by rw [hzb.2]; simp)⟩, fun b d hb ho => ⟨by rw [hsame b hb (by rw [ho]; simp)]; exact ho, hblk b hb (by rw [ho]; simp)⟩⟩, ⟨hos.1.trans h.keep.os, hos.2.1.trans h.keep.tape, hos.2.2.1.trans h.keep.output, Nat.le_trans h.keep.size hos.2.2.2, fun k hk hL => ?_⟩, fun k l hk => ?_, fun p hp => ?_, fun p hp => hhd p (fun e => hp (.inl e)), fun p i hp => hrow p i (fun e => hp (.inl e.1)), fun _ => rfl, fun b l hb hl => ?_⟩
    · rcases hX with ⟨_, hg⟩ | ⟨_, _, hg⟩
      · rw [hg.block k (Nat.lt_of_lt_of_le hk h.keep.size) (fun e => by
          rcases (hob k e.symm).2 with h1 | h1
          · omega
          · exact hL h1)]
        exact h.keep.block k hk hL
      · rw [hg.block k (Nat.lt_of_lt_of_le hk h.keep.size) (by simp)]
        exact h.keep.block k hk hL
    · simp only [γ', rowGam] at hk
      split at hk
      · rename_i e
        exact Nat.lt_of_lt_of_le (hqlt k e) hos.2.2.2
      · split at hk
        · rename_i e
          rcases hX with ⟨h1, hg⟩ | ⟨h1, h2, hg⟩
          · rw [h1] at e
            have := h.ownlt k _ (hob k e.1).1
            omega
          · omega
        · exact Nat.lt_of_lt_of_le (h.ownlt k l hk) hos.2.2.2
    · rw [hhd p (by omega)]
      exact h.lent p hp
    · obtain ⟨h1, h2⟩ := hT b l hb hl
      exact ⟨by rw [hsame b (h.ownlt b l hb) h1]; exact hb, hblk b (h.ownlt b l hb) h2⟩
  have hK : Forgets (fun b => killR r (killR q b)) γ γ' := by
    intro b
    by_cases h1 : killR r (killR q b) = .any
    · exact .inl h1
    · right
      have h2 : killR q b ≠ .any := fun e' => by rw [e'] at h1; exact h1 rfl
      have h3 : killR q b = b := (killR_or q b).resolve_left h2
      rw [h3] at h1
      refine ⟨by show killR r (killR q b) = b; rw [h3]; exact (killR_or r b).resolve_left h1, killR_agree h1 hhd (fun p i hp => hrow p i (fun e => hp e.1)) (fun _ => rfl)⟩
  have rowOK : ∀ {i : Nat} {xs : List sh.T}, i < xss.length → rowRep C γ w r e2 sh i xs → rowRep C γ' w' r e2 sh i xs := by
    intro i xs hi hr'
    unfold rowRep at *
    rw [hrow r i (fun e => by omega)]
    refine ⟨own_same hr'.1 (fun k hk => hblk k (h.ownlt k _ (hr'.2 k hk).1) (by rw [(hr'.2 k hk).1]; simp)), fun k hk => ⟨?_, (hr'.2 k hk).2⟩⟩
    rw [hsame k (h.ownlt k _ (hr'.2 k hk).1) (by rw [(hr'.2 k hk).1]; simp)]
    exact (hr'.2 k hk).1
  have hhr : γ'.hd r = X.v := by simp [γ', rowGam, Gam.hd, upd]
  refine ⟨X.v, w', γ', exec_append (by rw [hx, hyv]; exact hrun), ?_, by simp only [svRep, bvRep]; rw [hhr]⟩
  rw [AS.map_map]
  refine m.rel h hK (fun p rc' hp => ?_)
  simp only [AS.map, AS.setRoot, upd] at hp
  split at hp
  · rename_i e
    subst e
    simp only [Option.some.injEq] at hp
    subst hp
    right
    refine ⟨hf, ?_, ?_, fun i xs hi => ?_⟩
    · rw [hhr, List.length_append, List.length_singleton, rowsOf_succ, hrown, rowsOf_congr (fun i hi => hrow p i (fun e => by omega))]
      exact hown'
    · rw [hhr]; exact hXown
    · rcases Nat.lt_or_ge i xss.length with hlt | hge
      · rw [List.getElem?_append_left hlt] at hi
        exact rowOK hlt (hrows i xs hi)
      · rw [List.getElem?_append_right hge] at hi
        have : i = xss.length := by
          have := (List.getElem?_eq_some_iff.1 hi).1
          simp at this; omega
        subst this
        simp only [Nat.sub_self, List.getElem?_cons_zero, Option.some.injEq] at hi
        subst hi
        unfold rowRep
        rw [hrown]
        refine ⟨own_same hownq (fun k hk => hblk k (hqlt k hk) (by rw [(hobq k hk).1]; simpa using Ne.symm hne)), fun k hk => ⟨?_, (hobq k hk).2⟩⟩
        simp only [γ', rowGam]
        rw [if_pos hk]
  · rename_i e
    split at hp
    · cases hp
    · rename_i e3
      exact .inl ⟨fun e' => e'.elim e e3, hp⟩

end
end Go.VS
