/- Value semantics, part D: an operation that writes nothing yields what part C says. Over any program; no condition. -/
import Derived.Test.YtaldpinkkgdklaaVsC
import Derived.Laws.Cover3
namespace Go.VS
open Go.RowKit
set_option linter.unusedSimpArgs false
set_option linter.unusedVariables false

section
variable {C : Ctx} {G : Lang} {γ : Gam} {s : AS} {a : Act} {w : World}

theorem constSV_rep (v : Value) : svRep C γ w (constSV v) v := by
  unfold constSV
  split
  · exact ⟨_, rfl, rfl⟩
  · exact ⟨_, rfl, rfl⟩
  · exact ⟨_, rfl, rfl⟩
  · exact ⟨_, rfl, rfl⟩
  · rfl
  · trivial

theorem ev_rep (h : Rel C γ s a w) (x : Operand) : svRep C γ w (ev s x) (a.eval x) := by
  cases x with
  | tmp t => exact h.env t
  | const v => exact constSV_rep v
  | func f => rfl
  | global g => trivial

/-! ### Values of shapes -/
theorem rep_int {n : Int} {v : Value} (h : svRep C γ w (.one (.val .int n)) v) : v = .int .i64 n := by
  obtain ⟨cs, h1, h2⟩ := h
  simp only [pers] at h1; subst h1; exact h2
theorem rep_bool {n : Bool} {v : Value} (h : svRep C γ w (.one (.val .bool n)) v) : v = .bool n := by
  obtain ⟨cs, h1, h2⟩ := h
  simp only [pers] at h1; subst h1; exact h2
theorem rep_byte {n : Nat} {v : Value} (h : svRep C γ w (.one (.val .byte n)) v) : v = .int .u8 (n : Nat) := by
  obtain ⟨cs, h1, h2⟩ := h
  simp only [pers] at h1; subst h1; exact h2
theorem rep_str {n : ByteArray} {v : Value} (h : svRep C γ w (.one (.val .str n)) v) : v = .string n := by
  obtain ⟨cs, h1, h2⟩ := h
  simp only [pers] at h1; subst h1; exact h2
theorem mk_int (n : Int) : svRep C γ w (.I n) (.int .i64 n) := ⟨_, rfl, rfl⟩
theorem mk_bool (n : Bool) : svRep C γ w (.B n) (.bool n) := ⟨_, rfl, rfl⟩
theorem mk_byte (n : Nat) : svRep C γ w (.one (.val .byte n)) (.int .u8 (n : Nat)) := ⟨_, rfl, rfl⟩

/-! ### Loads -/
theorem run_isAgg {P : Program} {t : TypeId} {d : TypeDesc} (h : P.underlying t = some d) (w : World) : (isAgg t).run P w = .ok (aggB d) w := by
  simp only [isAgg, Sem.run_bind, run_underlying h, Result.andThen_ok]
  cases d <;> rfl

theorem run_sizeOf {P : Program} {t : TypeId} {i : TypeInfo} (h : P.info? t = some i) (w : World) : (sizeOf t).run P w = .ok i.size w := by
  simp [sizeOf, typeInfo, h]

theorem size_one {s : Sh} (h : s.agg = false) : s.size = 1 := by cases s <;> simp [Sh.agg] at h <;> rfl

/-- A datum of shape s is loaded from its cells. -/
theorem run_load_sh (hG : LangOK C.P G) {t : TypeId} {sh : Sh} (ht : G.sh t = some sh) {x : sh.T} {Z : Nat → Prop} {cs : List Value} (hp : pers w Z sh x cs) {b off : Nat}
    (hc : ∀ j c, cs[j]? = some c → w.cell? ⟨b, off + j, none⟩ = some c) : (Instr.loadAt t (.pointer (some ⟨b, off, none⟩))).run C.P w = .ok (pack sh cs) w := by
  obtain ⟨d, hd, hagg⟩ := hG.agg t sh ht
  obtain ⟨i, z, hi, hsz, _⟩ := hG.info t sh ht
  have hlen := pers_len sh x cs hp
  simp only [Instr.loadAt, Instr.sureAddr, loadVar, Sem.run_bind, Sem.run_pure, Result.andThen_ok, run_isAgg hd, hagg]
  unfold pack
  by_cases ha : sh.agg = true
  · have hl := run_loadCells_list (P := C.P) (w := w) ⟨b, off, none⟩ cs (fun j v hj => by rw [Addr.add_lit]; exact hc j v hj)
    simp only [ha, if_true, Sem.run_bind, run_sizeOf hi, Result.andThen_ok, hsz, ← hlen, hl, Sem.run_pure]
  · have ha' : sh.agg = false := by simpa using ha
    have h1 := size_one ha'
    rw [h1] at hlen
    obtain ⟨c, rfl⟩ := List.length_eq_one_iff.1 hlen
    have hc0 := hc 0 c rfl
    simp only [ha', Bool.false_eq_true, if_false, List.headD_cons]
    simp only [Nat.add_zero] at hc0
    simp [load, Sem.run, hc0]

/-- One cell, of a type that is no struct and no array. -/
theorem run_load_plain (hG : LangOK C.P G) {t : TypeId} (ht : G.plain t = true) {b off : Nat} {c : Value} (hc : w.cell? ⟨b, off, none⟩ = some c) :
    (Instr.loadAt t (.pointer (some ⟨b, off, none⟩))).run C.P w = .ok c w := by
  obtain ⟨d, _, hd, hagg, _⟩ := hG.plain t ht
  simp only [Instr.loadAt, Instr.sureAddr, loadVar, Sem.run_bind, Sem.run_pure, Result.andThen_ok, run_isAgg hd, hagg, Bool.false_eq_true, if_false]
  simp [load, Sem.run, hc]

theorem plain_of_sh (hG : LangOK C.P G) {t : TypeId} {sh : Sh} (ht : G.sh t = some sh) (ha : sh.agg = false) {b off : Nat} {c : Value} (hc : w.cell? ⟨b, off, none⟩ = some c) :
    (Instr.loadAt t (.pointer (some ⟨b, off, none⟩))).run C.P w = .ok c w := by
  obtain ⟨d, hd, hagg⟩ := hG.agg t sh ht
  simp only [Instr.loadAt, Instr.sureAddr, loadVar, Sem.run_bind, Sem.run_pure, Result.andThen_ok, run_isAgg hd, hagg, ha, Bool.false_eq_true, if_false]
  simp [load, Sem.run, hc]

theorem flatMap_get {α : Type} (f : α → List Value) (sz : Nat) (hf : ∀ x, (f x).length = sz) : ∀ (xs : List α) (i j : Nat) (hi : i < xs.length), j < sz → (xs.flatMap f)[i * sz + j]? = (f xs[i])[j]?
  | x :: xs, 0, j, _, hj => by simp [List.getElem?_append, hf, hj]
  | x :: xs, i + 1, j, hi, hj => by
    have h1 : (i + 1) * sz + j = (f x).length + (i * sz + j) := by rw [hf, Nat.add_mul]; omega
    rw [List.flatMap_cons, h1, List.getElem?_append_right (by omega), Nat.add_sub_cancel_left]
    simpa using flatMap_get f sz hf xs i j (by simpa using hi) hj

theorem flatMap_len {α : Type} (f : α → List Value) (sz : Nat) (hf : ∀ x, (f x).length = sz) (xs : List α) : (xs.flatMap f).length = xs.length * sz := by
  induction xs with
  | nil => simp
  | cons x xs ih => simp [hf, ih, Nat.add_mul]; omega

/-- The header of a row that is not empty. -/
theorem own_head {e sz n : Nat} {v : Value} {xs : List Value} (h : w.ownsRow 0 e sz v n xs) (hn : 0 < n) : ∃ g cap, v = .slice (some ⟨g, 0, none⟩) n cap := by
  rcases h.2 with ⟨_, h2⟩ | ⟨g, cap, cur, rfl, _⟩
  · omega
  · exact ⟨g, cap, rfl⟩

/-- The header of any row is a slice of that length. -/
theorem own_slice {e sz n : Nat} {v : Value} {xs : List Value} (h : w.ownsRow 0 e sz v n xs) : ∃ ad cap, v = .slice ad n cap ∧ n ≤ cap ∧ cap ≤ maxLen := by
  rcases h.2 with ⟨rfl, rfl⟩ | ⟨g, cap, cur, rfl, _, _, h1, h2, _⟩
  · exact ⟨_, _, rfl, Nat.le_refl _, Nat.zero_le _⟩
  · exact ⟨_, _, rfl, h1, h2⟩

theorem own_cell {e sz n g cap : Nat} {xs : List Value} (h : w.ownsRow 0 e sz (.slice (some ⟨g, 0, none⟩) n cap) n xs) {j : Nat} {c : Value} (hj : xs[j]? = some c) : w.cell? ⟨g, j, none⟩ = some c := by
  have hl : j < xs.length := (List.getElem?_eq_some_iff.1 hj).1
  rw [h.cellAt j (by rw [← h.1]; exact hl)]
  exact hj

/-- The cells of element i of a row of data without slices. -/
theorem own_elem {e g n cap : Nat} {sh : Sh} {xs : List sh.T} (h : w.ownsRow 0 e sh.size (.slice (some ⟨g, 0, none⟩) n cap) n (xs.flatMap sh.cells)) {i : Nat} (hi : i < xs.length) (hs : 0 < sh.size) :
    ∀ j c, (sh.cells xs[i])[j]? = some c → w.cell? ⟨g, i * sh.size + j, none⟩ = some c := by
  intro j c hj
  have hjl : j < sh.size := by have := (List.getElem?_eq_some_iff.1 hj).1; rwa [cells_len] at this
  exact own_cell h (by rw [flatMap_get sh.cells sh.size (cells_len sh) xs i j hi hjl]; exact hj)

theorem rows_get {r n i : Nat} (h : i < n) : (rowsOf γ r n)[i]? = some (γ.rows r i) := by
  simp [rowsOf, h]

/-! ### The yield of an operation -/
def Yields (C : Ctx) (γ : Gam) (a : Act) (w : World) (o : Oper) (r : Prop × SV) : Prop :=
  r.1 → ∃ v w', (execOp a.eval o).run C.P w = .ok (.value v) w' ∧ Keep (fun _ => False) w w' ∧ svRep C γ w' r.2 v

theorem Yields.bad {o : Oper} : Yields C γ a w o bad := fun h => h.elim

theorem Yields.same {o : Oper} {r : Prop × SV} {v : Value} (h : r.1 → (execOp a.eval o).run C.P w = .ok (.value v) w ∧ svRep C γ w r.2 v) : Yields C γ a w o r :=
  fun hr => ⟨v, w, (h hr).1, Keep.refl _ _, (h hr).2⟩

theorem run_v {P : Program} {S : Sem Value} {v : Value} {w w' : World} (h : S.run P w = .ok v w') : (do let y ← S; pure (Next.value y)).run P w = .ok (.value v) w' := by
  simp only [Sem.run_bind, h, Result.andThen_ok, Sem.run_pure]

theorem val_rep_flat {sh : Sh} (hf : sh.flat = true) (x : sh.T) : svRep C γ w (.one (.val sh x)) (pack sh (sh.cells x)) := ⟨_, (pers_flat sh x _ hf).2 rfl, rfl⟩

theorem single_cells {b : BV} {v : Value} (hb : b.single = true) (h : bvRep C γ w b v) : v.cells.toList = [v] := by
  cases b with
  | val sh x =>
    obtain ⟨c, hp, rfl⟩ := h
    have ha : sh.agg = false := by simpa [BV.single] using hb
    rw [pack_cells sh x c hp]
    have hl := pers_len sh x c hp
    rw [size_one ha] at hl
    obtain ⟨u, rfl⟩ := List.length_eq_one_iff.1 hl
    simp [pack, ha]
  | any => simp [BV.single] at hb
  | skip => simp [BV.single] at hb
  | fnv as r q p => simp [BV.single] at hb
  | mk d e s xs => simp [BV.single] at hb
  | nils => simp only [bvRep] at h; subst h; rfl
  | ref r => simp only [bvRep] at h; subst h; rfl
  | refi r i => simp only [bvRep] at h; subst h; rfl
  | adr r i sz => obtain ⟨g, n, cap, _, rfl⟩ := h; rfl
  | adri r i j sz => obtain ⟨g, n, cap, _, rfl⟩ := h; rfl
  | box b => simp only [bvRep] at h; subst h; rfl
  | boxf b n f off => simp only [bvRep] at h; subst h; rfl
  | padr sh x => obtain ⟨b, off, cs, rfl, _⟩ := h; rfl
  | fn f caps => simp only [bvRep] at h; subst h; rfl
  | lits r => obtain ⟨g, cap, rfl, _⟩ := h; rfl
  | pfn as r q p => obtain ⟨b, off, c, rfl, _⟩ := h; rfl
  | nilf => simp only [bvRep] at h; subst h; rfl
  | unk => obtain ⟨b, rfl⟩ := h; rfl

theorem single_one {b : BV} {v : Value} (hb : b.single = true) (h : bvRep C γ w b v) : v.oneCell' = true := by
  cases b with
  | val sh x =>
    obtain ⟨c, hp, rfl⟩ := h
    have ha : sh.agg = false := by simpa [BV.single] using hb
    have hl := pers_len sh x c hp
    rw [size_one ha] at hl
    obtain ⟨u, rfl⟩ := List.length_eq_one_iff.1 hl
    have := pers_one sh x _ hp u (by simp)
    simpa [pack, ha] using this
  | any => simp [BV.single] at hb
  | skip => simp [BV.single] at hb
  | fnv as r q p => simp [BV.single] at hb
  | mk d e s xs => simp [BV.single] at hb
  | nils => simp only [bvRep] at h; subst h; rfl
  | ref r => simp only [bvRep] at h; subst h; rfl
  | refi r i => simp only [bvRep] at h; subst h; rfl
  | adr r i sz => obtain ⟨g, n, cap, _, rfl⟩ := h; rfl
  | adri r i j sz => obtain ⟨g, n, cap, _, rfl⟩ := h; rfl
  | box b => simp only [bvRep] at h; subst h; rfl
  | boxf b n f off => simp only [bvRep] at h; subst h; rfl
  | padr sh x => obtain ⟨b, off, cs, rfl, _⟩ := h; rfl
  | fn f caps => simp only [bvRep] at h; subst h; rfl
  | lits r => obtain ⟨g, cap, rfl, _⟩ := h; rfl
  | pfn as r q p => obtain ⟨b, off, c, rfl, _⟩ := h; rfl
  | nilf => simp only [bvRep] at h; subst h; rfl
  | unk => obtain ⟨b, rfl⟩ := h; rfl

theorem bvsRep_len : ∀ (bs : List BV) (vs : List Value), bvsRep C γ w bs vs → vs.length = bs.length
  | [], vs, h => by simp only [bvsRep] at h; subst h; rfl
  | b :: bs, vs, h => by
    obtain ⟨v, vs', rfl, _, h2⟩ := h
    simp [bvsRep_len bs vs' h2]

theorem bvsRep_get : ∀ (bs : List BV) (vs : List Value), bvsRep C γ w bs vs → ∀ i, i < bs.length → ∃ v, vs[i]? = some v ∧ bvRep C γ w (bs.getD i .any) v
  | [], _, _, _, hi => by simp at hi
  | b :: bs, vs, h, 0, _ => by
    obtain ⟨v, vs', rfl, h1, _⟩ := h
    exact ⟨v, rfl, h1⟩
  | b :: bs, vs, h, i + 1, hi => by
    obtain ⟨v, vs', rfl, _, h2⟩ := h
    obtain ⟨u, h3, h4⟩ := bvsRep_get bs vs' h2 i (by simpa using hi)
    exact ⟨u, by simpa using h3, by simpa using h4⟩

theorem leaf_pers (sh : Sh) (ha : sh.agg = false) : ∀ (bs : List BV) (cs : List Value) (x : sh.T) (r : List BV), leaf sh bs = some (x, r) → bvsRep C γ w bs cs →
    ∃ c d, cs = c ++ d ∧ pers w (C.zn γ) sh x c ∧ bvsRep C γ w r d := by
  intro bs cs x r h hr
  unfold leaf at h
  split at h
  · rename_i t y bs'
    split at h
    · rename_i ht
      subst ht
      simp only [Option.some.injEq, Prod.mk.injEq] at h
      obtain ⟨rfl, rfl⟩ := h
      obtain ⟨v, vs, rfl, ⟨c, hp, hv⟩, h2⟩ := hr
      have hl := pers_len t y c hp
      rw [size_one ha] at hl
      obtain ⟨u, rfl⟩ := List.length_eq_one_iff.1 hl
      have : v = u := by rw [hv]; simp [pack, ha]
      subst this
      exact ⟨[v], vs, rfl, hp, h2⟩
    · cases h
  · cases h

theorem ofCells_pers : ∀ (sh : Sh) (bs : List BV) (cs : List Value) (x : sh.T) (r : List BV), ofCells sh bs = some (x, r) → bvsRep C γ w bs cs →
    ∃ c d, cs = c ++ d ∧ pers w (C.zn γ) sh x c ∧ bvsRep C γ w r d
  | .unit, bs, cs, x, r, h, hr => by
    simp only [ofCells, Option.some.injEq, Prod.mk.injEq] at h
    obtain ⟨_, rfl⟩ := h
    exact ⟨[], cs, rfl, rfl, hr⟩
  | .prod p q, bs, cs, x, r, h, hr => by
    simp only [ofCells] at h
    split at h
    · rename_i y r1 h1
      split at h
      · rename_i z r2 h2
        simp only [Option.some.injEq, Prod.mk.injEq] at h
        obtain ⟨rfl, rfl⟩ := h
        obtain ⟨c, d, rfl, hp, hr1⟩ := ofCells_pers p bs cs y r1 h1 hr
        obtain ⟨c', d', rfl, hp', hr2⟩ := ofCells_pers q r1 d z r2 h2 hr1
        exact ⟨c ++ c', d', by simp, ⟨c, c', rfl, hp, hp'⟩, hr2⟩
      · cases h
    · cases h
  | .sl p, bs, cs, x, r, h, hr => by
    simp only [ofCells] at h
    unfold leafSl at h
    split at h
    · simp only [Option.some.injEq, Prod.mk.injEq] at h
      obtain ⟨rfl, rfl⟩ := h
      obtain ⟨v, vs, rfl, h1, h2⟩ := hr
      simp only [bvRep] at h1
      exact ⟨[v], vs, rfl, ⟨none, 0, by rw [h1]; rfl, Nat.le_refl _, Nat.zero_le _, fun i hi => by simp at hi⟩, h2⟩
    · exact leaf_pers (.sl p) rfl bs cs x r h hr
  | .int, bs, cs, x, r, h, hr => leaf_pers .int rfl bs cs x r h hr
  | .bool, bs, cs, x, r, h, hr => leaf_pers .bool rfl bs cs x r h hr
  | .str, bs, cs, x, r, h, hr => leaf_pers .str rfl bs cs x r h hr
  | .byte, bs, cs, x, r, h, hr => leaf_pers .byte rfl bs cs x r h hr

theorem mkStruct_rep {sh : Sh} {bs : List BV} {cs : List Value} (ha : sh.agg = true) (h : bvsRep C γ w bs cs) (h1 : ∀ u ∈ cs, u.oneCell' = true) : svRep C γ w (mkStruct sh bs) (.agg cs.toArray) := by
  unfold mkStruct
  split
  · rename_i x hx
    obtain ⟨c, e, rfl, hp, he⟩ := ofCells_pers sh bs cs x [] hx h
    simp only [bvsRep] at he
    subst he
    exact ⟨c, hp, by simp [pack, ha]⟩
  · exact ⟨cs, rfl, h, h1⟩

theorem y_load (hG : LangOK C.P G) (h : Rel C γ s a w) (d : Option Tmp) (t : TypeId) (x : Operand) (ty : TypeId) (pos : String) (af : Array Edge) (gd : Option (Nat × Bool)) :
    Yields C γ a w ⟨d, .load t x, ty, pos, af, gd⟩ (pv G s (.load t x)) := by
  have hx := ev_rep h x
  simp only [pv]
  split
  · rename_i sh y he
    rw [he] at hx
    obtain ⟨b, off, cs, h1, h2, h3, h4, h5⟩ := hx
    refine Yields.same (v := pack sh cs) fun hr => ⟨run_v ?_, cs, h4, rfl⟩
    simp only at hr
    rw [h1]
    exact run_load_sh hG hr h4 h5
  · rename_i as r q p he
    rw [he] at hx
    obtain ⟨b, off, c, h1, h2, h3, h4, h5⟩ := hx
    refine Yields.same (v := c) fun hr => ⟨run_v ?_, h5⟩
    rw [h1]
    exact run_load_plain hG hr h4
  · rename_i r i sz he
    rw [he] at hx
    obtain ⟨g, n, cap, hh, hv⟩ := hx
    split
    · rename_i e sh xs hr
      have hrc := h.roots r _ hr
      intro hok
      obtain ⟨ht, rfl, hi⟩ := hok
      obtain ⟨hf, hown, _⟩ := hrc
      rw [hh] at hown
      have hn : n = xs.length := by
        obtain ⟨ad, cp, e1, _⟩ := own_slice hown
        simp only [Value.slice.injEq] at e1
        exact e1.2.1
      subst hn
      obtain ⟨i0, z, hi0, hsz, _⟩ := hG.info t sh ht
      have hpos : 0 < sh.size ∨ sh.size = 0 := by omega
      have hget : xs.getD i sh.zero = xs[i] := by simp [List.getD_eq_getElem?_getD, hi]
      rw [hget]
      refine ⟨_, w, run_v ?_, Keep.refl _ _, val_rep_flat hf _⟩
      rw [hv]
      refine run_load_sh hG ht ((pers_flat sh _ _ hf).2 rfl) (Z := fun _ => True) (fun j c hj => ?_)
      rcases hpos with hp | hp
      · exact own_elem hown hi hp j c hj
      · have := (List.getElem?_eq_some_iff.1 hj).1
        rw [cells_len] at this
        omega
    · rename_i e e2 sh xss hr
      have hrc := h.roots r _ hr
      intro hok
      obtain ⟨ht, rfl, hi⟩ := hok
      obtain ⟨hf, hown, _, hrows⟩ := hrc
      rw [hh] at hown
      have hn : n = xss.length := by
        obtain ⟨ad, cp, e1, _⟩ := own_slice hown
        simp only [Value.slice.injEq] at e1
        exact e1.2.1
      subst hn
      have hc := own_cell hown (rows_get (γ := γ) (r := r) hi)
      refine ⟨_, w, run_v ?_, Keep.refl _ _, rfl⟩
      rw [hv, Nat.mul_one]
      exact plain_of_sh hG ht rfl hc
    · rename_i e e2 sh xss k hr
      have hrc := h.roots r _ hr
      intro hok
      obtain ⟨ht, rfl, hi, _⟩ := hok
      obtain ⟨hf, hown, _, hrows⟩ := hrc
      rw [hh] at hown
      have hn : n = xss.length := by
        obtain ⟨ad, cp, e1, _⟩ := own_slice hown
        simp only [Value.slice.injEq] at e1
        exact e1.2.1
      subst hn
      have hc := own_cell hown (rows_get (γ := γ) (r := r) hi)
      refine ⟨_, w, run_v ?_, Keep.refl _ _, rfl⟩
      rw [hv, Nat.mul_one]
      exact plain_of_sh hG ht rfl hc
    · exact Yields.bad
  · rename_i r i j sz he
    rw [he] at hx
    obtain ⟨g, n, cap, hh, hv⟩ := hx
    split
    · rename_i e e2 sh xss hr
      have hrc := h.roots r _ hr
      intro hok
      obtain ⟨ht, rfl, hi, hj⟩ := hok
      obtain ⟨hf, _, _, hrows⟩ := hrc
      have hgi : xss.getD i [] = xss[i] := by simp [List.getD_eq_getElem?_getD, hi]
      rw [hgi] at hj ⊢
      obtain ⟨hown, _⟩ := hrows i xss[i] (by simp [hi])
      rw [hh] at hown
      have hn : n = xss[i].length := by
        obtain ⟨ad, cp, e1, _⟩ := own_slice hown
        simp only [Value.slice.injEq] at e1
        exact e1.2.1
      subst hn
      have hget : (xss[i]).getD j sh.zero = xss[i][j] := by simp [List.getD_eq_getElem?_getD, hj]
      rw [hget]
      refine ⟨_, w, run_v ?_, Keep.refl _ _, val_rep_flat hf _⟩
      rw [hv]
      refine run_load_sh hG ht ((pers_flat sh _ _ hf).2 rfl) (Z := fun _ => True) (fun q c hq => ?_)
      have hp : 0 < sh.size := by
        have := (List.getElem?_eq_some_iff.1 hq).1
        rw [cells_len] at this
        omega
      exact own_elem hown hj hp q c hq
    · exact Yields.bad
  · rename_i b he
    rw [he] at hx
    simp only [svRep, bvRep] at hx
    split
    · rename_i sh y hb
      obtain ⟨cs, tt, h1, ⟨v, hv, hcs⟩, h3, h4, h5⟩ := h.boxes b _ hb
      obtain ⟨c, hp, rfl⟩ := hv
      rw [pack_cells sh y c hp] at hcs
      refine Yields.same (v := pack sh c) fun ht => ⟨run_v ?_, c, hp, rfl⟩
      rw [hx]
      refine run_load_sh hG ht hp (fun j u hj => ?_)
      rw [Nat.zero_add, cell_of_row w _ j cs tt (0, 0) h1]
      rw [← hcs] at hj
      simpa using hj
    · rename_i bv hnv hb
      obtain ⟨cs, tt, h1, ⟨v, hv, hcs⟩, h3, h4, h5⟩ := h.boxes b _ hb
      refine Yields.same (v := v) fun hok => ⟨run_v ?_, hv⟩
      rw [hx]
      refine run_load_plain hG hok.1 ?_
      rw [cell_of_row w _ 0 cs tt (0, 0) h1]
      have := single_cells hok.2 hv
      rw [this] at hcs
      have h0 : cs.toList[0]? = some v := by rw [hcs]; rfl
      simpa using h0
    · rename_i bs hb
      obtain ⟨cs, tt, h1, hbs, h3, h4, h5⟩ := h.boxes b _ hb
      simp only [boxCells] at hbs
      have hrun : G.ones t = some bs.length → (Instr.loadAt t (a.eval x)).run C.P w = .ok (.agg cs) w := by
        intro hok
        obtain ⟨fs, i, z, hu, hi, hsz, hz, hzs, _⟩ := hG.ones t _ hok
        rw [hx]
        have hlen := bvsRep_len bs cs.toList hbs
        have hl := run_loadCells_list (P := C.P) (w := w) ⟨γ.bx b, 0, none⟩ cs.toList (fun j v hj => by
          rw [Addr.add_lit, Nat.zero_add, cell_of_row w _ j cs tt (0, 0) h1]
          simpa using hj)
        simp only [Instr.loadAt, Instr.sureAddr, loadVar, Sem.run_bind, Sem.run_pure, Result.andThen_ok, run_isAgg hu, aggB, if_true, run_sizeOf hi, hsz]
        rw [← hlen, hl]
        simp
      split
      · rename_i sh hsh
        refine Yields.same (v := .agg cs) fun hok => ⟨run_v (hrun hok.1), ?_⟩
        exact mkStruct_rep (cs := cs.toList) hok.2 hbs h3
      · exact Yields.same (v := .agg cs) fun hok => ⟨run_v (hrun hok), cs.toList, by simp, hbs, h3⟩
    · exact Yields.bad
  · rename_i b n f off he
    rw [he] at hx
    simp only [svRep, bvRep] at hx
    split
    · rename_i sh y hb
      obtain ⟨cs, tt, h1, ⟨v, hv, hcs⟩, h3, h4, h5⟩ := h.boxes b _ hb
      obtain ⟨c, hp, rfl⟩ := hv
      rw [pack_cells sh y c hp] at hcs
      split
      · rename_i sh' z hf
        intro hok
        obtain ⟨ho, ht⟩ := hok
        obtain ⟨pre, e, post, rfl, hl, hp'⟩ := fieldV_pers n f sh y c sh' z off hp hf ho
        refine ⟨_, w, run_v ?_, Keep.refl _ _, e, hp', rfl⟩
        rw [hx]
        refine run_load_sh hG ht hp' (fun j u hj => ?_)
        rw [cell_of_row w _ _ cs tt (0, 0) h1]
        have : cs.toList[off + j]? = some u := by
          rw [hcs, List.append_assoc, ← hl, List.getElem?_append_right (by omega), Nat.add_sub_cancel_left, List.getElem?_append_left (List.getElem?_eq_some_iff.1 hj).1]
          exact hj
        simpa using this
      · exact Yields.bad
    · rename_i bs hb
      obtain ⟨cs, tt, h1, hbs, h3, h4, h5⟩ := h.boxes b _ hb
      simp only [boxCells] at hbs
      intro hok
      obtain ⟨ht, ho⟩ := hok
      obtain ⟨v, hv, hvr⟩ := bvsRep_get bs cs.toList hbs off ho
      refine ⟨v, w, run_v ?_, Keep.refl _ _, hvr⟩
      rw [hx]
      refine run_load_plain hG ht ?_
      rw [cell_of_row w _ _ cs tt (0, 0) h1]
      simpa using hv
    · exact Yields.bad
  · exact Yields.bad

/-! ### Arithmetic and comparisons -/
section
variable {P : Program} (w : World)
theorem e_bool (t : TypeId) (p q : Bool) (h : P.underlying t = some .bool) : (binOp .eql t (.bool p) (.bool q)).run P w = .ok (.bool (p == q)) w := run_eql_bool w t p q h
theorem n_bool (t : TypeId) (p q : Bool) (h : P.underlying t = some .bool) : (binOp .neq t (.bool p) (.bool q)).run P w = .ok (.bool (p != q)) w := run_neq_bool w t p q h
theorem beq_bytes (p q : ByteArray) : (p.toList == q.toList) = decide (p = q) := by
  rw [ByteArray.toList_eq, ByteArray.toList_eq]
  by_cases e : p = q
  · subst e; simp
  · have : p.data.toList ≠ q.data.toList := fun h => e (by cases p; cases q; congr 1; exact Array.toList_inj.1 h)
    have h2 : p.data ≠ q.data := fun h => this (by rw [h])
    simp [e, h2]
theorem e_str (t : TypeId) (p q : ByteArray) : (binOp .eql t (.string p) (.string q)).run P w = .ok (.bool (decide (p = q))) w := by
  simp [binOp_string_eql, beq_bytes]
theorem n_str (t : TypeId) (p q : ByteArray) : (binOp .neq t (.string p) (.string q)).run P w = .ok (.bool (!decide (p = q))) w := by
  simp [binOp_string_neq, beq_bytes]
theorem e_nil (t e : TypeId) (a : Option Addr) (l c : Nat) (h : P.underlying t = some (.slice e)) : (binOp .eql t (.slice a l c) (.slice none 0 0)).run P w = .ok (.bool a.isNone) w := by
  simp only [binOp]
  simp [run_equal_slice_nil w t e a l c h]
theorem n_nil (t e : TypeId) (a : Option Addr) (l c : Nat) (h : P.underlying t = some (.slice e)) : (binOp .neq t (.slice a l c) (.slice none 0 0)).run P w = .ok (.bool (!a.isNone)) w := by
  simp only [binOp]
  simp [run_equal_slice_nil w t e a l c h]
end

theorem beq_nat (n m : Nat) : ((n : Int) == (m : Int)) = decide (n = m) := by
  by_cases e : n = m
  · subst e; simp
  · have : (n : Int) ≠ m := by omega
    simp [e, this]
theorem bne_nat (n m : Nat) : ((n : Int) != (m : Int)) = !decide (n = m) := by rw [bne, beq_nat]

theorem y_bin (hG : LangOK C.P G) (h : Rel C γ s a w) (d : Option Tmp) (op : BinOp) (t : TypeId) (x y : Operand) (yt ty : TypeId) (pos : String) (af : Array Edge) (gd : Option (Nat × Bool)) :
    Yields C γ a w ⟨d, .binOp op t x y yt, ty, pos, af, gd⟩ (pv G s (.binOp op t x y yt)) := by
  have hx := ev_rep h x
  have hy := ev_rep h y
  simp only [pv]
  split
  · rename_i n m ex ey
    rw [ex] at hx; rw [ey] at hy
    have hx := rep_int hx
    have hy := rep_int hy
    cases op <;> simp only [binI] <;> first
      | exact Yields.bad
      | exact Yields.same (v := .int .i64 (n + m)) fun hr => ⟨run_v (by rw [hx, hy]; simp [Op.intArith, eqGuard_add, binOp_add, IntWalk.i64_in _ hr]), mk_int _⟩
      | exact Yields.same (v := .int .i64 (n - m)) fun hr => ⟨run_v (by rw [hx, hy]; simp [Op.intArith, eqGuard_sub, binOp_sub, IntWalk.i64_in _ hr]), mk_int _⟩
      | exact Yields.same (v := .int .i64 (n * m)) fun hr => ⟨run_v (by rw [hx, hy]; simp [Op.intArith, eqGuard_mul, binOp_mul, IntWalk.i64_in _ hr]), mk_int _⟩
      | exact Yields.same (v := .int .i64 (n.tdiv m)) fun hr => ⟨run_v (by rw [hx, hy]; simp [Op.intDiv, eqGuard_quo, binOp_quo, IntWalk.i64_in _ hr.2, hr.1]), mk_int _⟩
      | exact Yields.same (v := .int .i64 (n.tmod m)) fun hr => ⟨run_v (by rw [hx, hy]; have : m ≠ 0 := hr; simp [Op.intDiv, eqGuard_rem, binOp_rem, this]), mk_int _⟩
      | exact Yields.same (v := .bool (decide (n = m))) fun _ => ⟨run_v (by rw [hx, hy]; simp [eqGuard_at_int, binOp_eql]; rfl), mk_bool _⟩
      | exact Yields.same (v := .bool (!decide (n = m))) fun _ => ⟨run_v (by rw [hx, hy]; simp [eqGuard_at_int, binOp_neq]; rfl), mk_bool _⟩
      | exact Yields.same (v := .bool (decide (n < m))) fun _ => ⟨run_v (by rw [hx, hy]; simp [eqGuard_at_int, binOp_lss]), mk_bool _⟩
      | exact Yields.same (v := .bool (decide (n ≤ m))) fun _ => ⟨run_v (by rw [hx, hy]; simp [eqGuard_at_int, binOp_leq]), mk_bool _⟩
      | exact Yields.same (v := .bool (decide (m < n))) fun _ => ⟨run_v (by rw [hx, hy]; simp [eqGuard_at_int, binOp_gtr]), mk_bool _⟩
      | exact Yields.same (v := .bool (decide (m ≤ n))) fun _ => ⟨run_v (by rw [hx, hy]; simp [eqGuard_at_int, binOp_geq]), mk_bool _⟩
  · rename_i n m ex ey
    rw [ex] at hx; rw [ey] at hy
    have hx := rep_byte hx
    have hy := rep_byte hy
    cases op <;> simp only [binB] <;> first
      | exact Yields.bad
      | exact Yields.same (v := .bool (decide (n = m))) fun _ => ⟨run_v (by rw [hx, hy]; simp [eqGuard_at_int, binOp_eql, Int.ofNat_inj, beq_nat]), mk_bool _⟩
      | exact Yields.same (v := .bool (!decide (n = m))) fun _ => ⟨run_v (by rw [hx, hy]; simp [eqGuard_at_int, binOp_neq, bne_nat]), mk_bool _⟩
      | exact Yields.same (v := .bool (decide (n < m))) fun _ => ⟨run_v (by rw [hx, hy]; simp [eqGuard_at_int, binOp_lss]), mk_bool _⟩
      | exact Yields.same (v := .bool (decide (n ≤ m))) fun _ => ⟨run_v (by rw [hx, hy]; simp [eqGuard_at_int, binOp_leq]), mk_bool _⟩
      | exact Yields.same (v := .bool (decide (m < n))) fun _ => ⟨run_v (by rw [hx, hy]; simp [eqGuard_at_int, binOp_gtr]), mk_bool _⟩
      | exact Yields.same (v := .bool (decide (m ≤ n))) fun _ => ⟨run_v (by rw [hx, hy]; simp [eqGuard_at_int, binOp_geq]), mk_bool _⟩
  · have key : ∀ (neg : Bool) (o : BinOp), o = (if neg then .neq else .eql) → Yields C γ a w ⟨d, .binOp o t x y yt, ty, pos, af, gd⟩ (pvEq G t neg (ev s x) (ev s y)) := by
      intro neg o hop
      unfold pvEq
      split
      · rename_i p q ex ey
        rw [ex] at hx; rw [ey] at hy
        replace hx := rep_bool hx
        replace hy := rep_bool hy
        intro ht
        have hu := hG.bool t ht
        cases neg
        · subst hop; exact ⟨.bool (p == q), w, run_v (by rw [hx, hy]; simp [eqGuard_at_bool, e_bool w t p q hu]), Keep.refl _ _, mk_bool _⟩
        · subst hop; exact ⟨.bool (p != q), w, run_v (by rw [hx, hy]; simp [eqGuard_at_bool, n_bool w t p q hu]), Keep.refl _ _, mk_bool _⟩
      · rename_i p q ex ey
        rw [ex] at hx; rw [ey] at hy
        replace hx := rep_str hx
        replace hy := rep_str hy
        intro ht
        cases neg
        · subst hop; exact ⟨.bool (decide (p = q)), w, run_v (by rw [hx, hy]; simp [eqGuard_at_string, e_str w t p q]), Keep.refl _ _, mk_bool _⟩
        · subst hop; exact ⟨.bool (!decide (p = q)), w, run_v (by rw [hx, hy]; simp [eqGuard_at_string, n_str w t p q]), Keep.refl _ _, mk_bool _⟩
      · rename_i p q ex ey
        rw [ex] at hx; rw [ey] at hy
        obtain ⟨cx, hpx, hx⟩ := hx
        obtain ⟨cy, hpy, hy⟩ := hy
        obtain ⟨c1, d1, rfl, h1, h2⟩ := hpx
        obtain ⟨c2, d2, rfl, h3, h4⟩ := hpy
        simp only [pers] at h1 h2 h3 h4
        subst h1 h2 h3 h4
        have hx' : a.eval x = .agg #[.int .i64 p.1, .int .i64 p.2] := by rw [hx]; rfl
        have hy' : a.eval y = .agg #[.int .i64 q.1, .int .i64 q.2] := by rw [hy]; rfl
        intro ht
        have hpair := hG.pair t ht w p.1 p.2 q.1 q.2 x y
        have he : (p.1 == q.1 && p.2 == q.2) = decide (p = q) := by
          obtain ⟨p1, p2⟩ := p
          obtain ⟨q1, q2⟩ := q
          by_cases e1 : p1 = q1 <;> by_cases e2 : p2 = q2 <;> simp [e1, e2]
        rw [he] at hpair
        cases neg
        · subst hop; exact ⟨.bool (decide (p = q)), w, run_v (by rw [hx', hy']; exact hpair.1), Keep.refl _ _, mk_bool _⟩
        · subst hop; exact ⟨.bool (!decide (p = q)), w, run_v (by rw [hx', hy']; exact hpair.2), Keep.refl _ _, mk_bool _⟩
      · rename_i ex ey
        rw [ex] at hx; rw [ey] at hy
        simp only [svRep, bvRep] at hx hy
        rintro ⟨sh, ht⟩
        have hu := (hG.sl t sh ht).1
        cases neg
        · subst hop; exact ⟨.bool true, w, run_v (by rw [hx, hy]; simp [eqGuard_at_slice, e_nil w t _ none 0 0 hu]), Keep.refl _ _, mk_bool _⟩
        · subst hop; exact ⟨.bool false, w, run_v (by rw [hx, hy]; simp [eqGuard_at_slice, n_nil w t _ none 0 0 hu]), Keep.refl _ _, mk_bool _⟩
      · rename_i sh xs ex ey
        rw [ex] at hx; rw [ey] at hy
        simp only [svRep, bvRep] at hy
        obtain ⟨cx, ⟨ad, cap, rfl, _, _, hall⟩, hx⟩ := hx
        intro ht
        have hu := (hG.sl t sh ht).1
        have hx' : a.eval x = .slice ad (List.length xs) cap := by rw [hx]; rfl
        cases xs with
        | nil =>
          cases neg
          · subst hop; exact ⟨.bool ad.isNone, w, run_v (by rw [hx', hy]; simp [eqGuard_at_slice, e_nil w t _ _ _ _ hu]), Keep.refl _ _, _, rfl⟩
          · subst hop; exact ⟨.bool (!ad.isNone), w, run_v (by rw [hx', hy]; simp [eqGuard_at_slice, n_nil w t _ _ _ _ hu]), Keep.refl _ _, _, rfl⟩
        | cons x0 xs =>
        obtain ⟨b, off, c, hb, _⟩ := hall 0 (by simp)
        subst hb
        cases neg
        · subst hop; exact ⟨.bool false, w, run_v (by rw [hx', hy]; simp [eqGuard_at_slice, e_nil w t _ _ _ _ hu]), Keep.refl _ _, mk_bool _⟩
        · subst hop; exact ⟨.bool true, w, run_v (by rw [hx', hy]; simp [eqGuard_at_slice, n_nil w t _ _ _ _ hu]), Keep.refl _ _, mk_bool _⟩
      · exact Yields.bad
    split
    · exact key false _ rfl
    · exact key true _ rfl
    · exact Yields.bad
end
end Go.VS
