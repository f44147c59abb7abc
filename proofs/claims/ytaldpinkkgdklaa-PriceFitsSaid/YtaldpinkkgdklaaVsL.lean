/- Value semantics, part L: every writing operation of part G does what part G says. Over any program; no condition. -/
import Derived.Test.YtaldpinkkgdklaaVsK
namespace Go.VS
open Go.RowKit
set_option linter.unusedSimpArgs false
set_option linter.unusedVariables false

section
variable {C : Ctx} {G : Lang} {γ : Gam} {s : AS} {a : Act} {w : World} {N : Nat}

theorem cast_list {sh sh' : Sh} {ys : List sh'.T} {ys' : List sh.T} (h : tryCast (.sl sh') (.sl sh) ys = some ys') : ∃ e : sh' = sh, ys' = e ▸ ys := by
  obtain ⟨e, h2⟩ := cast_val h
  have e' : sh' = sh := by simpa using e
  subst e'
  exact ⟨rfl, h2⟩

theorem Wrote.skip {o : Oper} {s' : AS} {p : Prop} (h : p → ∃ w' γ', (execOp a.eval o).run C.P w = .ok .skip w' ∧ Rel C γ' s' a w') : Wrote C a w N o (p, s', .one .any) := fun hp =>
  let ⟨w', γ', h1, h2⟩ := h hp
  ⟨undef, w', γ', .inr ⟨h1, rfl⟩, h2, trivial⟩

theorem Wrote.value {o : Oper} {s' : AS} {sv : SV} {p : Prop} (h : p → ∃ v w' γ', (execOp a.eval o).run C.P w = .ok (.value v) w' ∧ Rel C γ' s' a w' ∧ svRep C γ' w' sv v) : Wrote C a w N o (p, s', sv) := fun hp =>
  let ⟨v, w', γ', h1, h2, h3⟩ := h hp
  ⟨v, w', γ', .inl h1, h2, h3⟩

theorem e_store (hG : LangOK C.P G) (h : Rel C γ s a w) (d : Option Tmp) (t : TypeId) (x y : Operand) (ty : TypeId) (pos : String) (af : Array Edge) (gd : Option (Nat × Bool)) :
    Wrote C a w N ⟨d, .store t x y, ty, pos, af, gd⟩ (ef G C.nl s d (.store t x y)) := by
  simp only [ef]
  split
  · rename_i r i sz sh v hx hy
    split
    · rename_i e sh' xs hr
      split
      · rename_i v' hc
        obtain ⟨rfl, h2⟩ := cast_val hc
        simp only at h2
        subst h2
        refine Wrote.skip fun ⟨h1, h2, h3⟩ => ?_
        obtain ⟨w', h4, h5⟩ := w_store_adr hG h (d := d) (ty := ty) (pos := pos) (af := af) (gd := gd) hx hy hr h1 h2 h3
        exact ⟨w', γ, h4, h5⟩
      · exact Wrote.bad
    · exact Wrote.bad
  · rename_i r i sz q hx hy
    split
    · rename_i e e2 sh xss e' sh' ys hr hq
      split
      · rename_i ys' hc
        obtain ⟨rfl, h2⟩ := cast_list hc
        simp only at h2
        subst h2
        refine Wrote.skip fun ⟨h1, h2, h3, h4, h5, h6⟩ => ?_
        subst h2
        subst h6
        exact w_store_row hG h (.inl rfl) hx hy hr hq h1 h3 h4 h5
      · exact Wrote.bad
    · rename_i e e2 sh xss k e' sh' ys hr hq
      split
      · rename_i ys' hc
        obtain ⟨rfl, h2⟩ := cast_list hc
        simp only at h2
        subst h2
        refine Wrote.skip fun ⟨h1, h2, h3, h3', h4, h5, h6⟩ => ?_
        subst h2
        subst h6
        subst h3'
        exact w_store_row hG h (.inr rfl) hx hy hr hq h1 h3 h4 h5
      · exact Wrote.bad
    · exact Wrote.bad
  · rename_i r i j sz sh v hx hy
    split
    · rename_i e e2 sh' xss hr
      split
      · rename_i v' hc
        obtain ⟨rfl, h2⟩ := cast_val hc
        simp only at h2
        subst h2
        refine Wrote.skip fun ⟨h1, h2, h3, h4⟩ => ?_
        obtain ⟨w', h5, h6⟩ := w_store_adri hG h (d := d) (ty := ty) (pos := pos) (af := af) (gd := gd) hx hy hr h1 h2 h3 h4
        exact ⟨w', γ, h5, h6⟩
      · exact Wrote.bad
    · exact Wrote.bad
  · rename_i b hx
    split
    · rename_i old ho
      refine Wrote.skip fun ⟨h1, h2, h3⟩ => ?_
      obtain ⟨w', h5, h6⟩ := w_store_box hG h (d := d) (ty := ty) (pos := pos) (af := af) (gd := gd) hx ho h1 h2 h3
      exact ⟨w', γ, h5, h6⟩
    · exact Wrote.bad
  · rename_i b n f off v hx hy
    split
    · rename_i bs ho
      refine Wrote.skip fun ⟨h1, h2, h3⟩ => ?_
      obtain ⟨w', h5, h6⟩ := w_store_boxf hG h (d := d) (ty := ty) (pos := pos) (af := af) (gd := gd) hx ho hy h1 h2 h3
      exact ⟨w', γ, h5, h6⟩
    · exact Wrote.bad
  · exact Wrote.bad

theorem e_make (hG : LangOK C.P G) (h : Rel C γ s a w) (d : Option Tmp) (t : TypeId) (l c : Operand) (ty : TypeId) (pos : String) (af : Array Edge) (gd : Option (Nat × Bool)) :
    Wrote C a w N ⟨d, .makeSlice t l c, ty, pos, af, gd⟩ (ef G C.nl s d (.makeSlice t l c)) := by
  simp only [ef]
  split
  · rename_i d n m sh hl hc ht
    refine Wrote.value fun ⟨h1, h2, h3, h4⟩ => ?_
    subst h1
    exact w_make_deep hG h hl hc ht h2 h4 h3
  · rename_i d n m sh _ hl hc ht
    refine Wrote.value fun ⟨h1, h2, h3, h4⟩ => ?_
    subst h1
    exact w_make_flat hG h hl hc ht h2 h4 h3
  · exact Wrote.bad

theorem e_build (hG : LangOK C.P G) (h : Rel C γ s a w) (d : Option Tmp) (t : TypeId) (n : Nat) (parts : Array (Nat × Operand)) (ty : TypeId) (pos : String) (af : Array Edge) (gd : Option (Nat × Bool)) :
    Wrote C a w N ⟨d, .buildSlice t n parts, ty, pos, af, gd⟩ (ef G C.nl s d (.buildSlice t n parts)) := by
  simp only [ef]
  split
  · rename_i d sh ht
    split
    · rename_i xs hxs
      exact Wrote.value fun ⟨h1, h2, h3, h4⟩ => w_build_own hG h ht hxs h1 h2 h3 h4
    · exact Wrote.bad
  · exact Wrote.bad

theorem e_alloc (hG : LangOK C.P G) (h : Rel C γ s a w) (d : Option Tmp) (t : TypeId) (ty : TypeId) (pos : String) (af : Array Edge) (gd : Option (Nat × Bool)) :
    Wrote C a w N ⟨d, .alloc t, ty, pos, af, gd⟩ (ef G C.nl s d (.alloc t)) := by
  simp only [ef]
  split
  · rename_i d sh ht
    exact Wrote.value fun _ => w_alloc hG h ht
  · exact Wrote.value fun h1 => w_alloc_fn hG h h1
  · exact Wrote.bad

theorem e_box (h : Rel C γ s a w) (d : Option Tmp) (t : TypeId) (x : Operand) (ty : TypeId) (pos : String) (af : Array Edge) (gd : Option (Nat × Bool)) :
    Wrote C a w N ⟨d, .box t x, ty, pos, af, gd⟩ (ef G C.nl s d (.box t x)) := by
  simp only [ef]
  split
  · rename_i d v hx
    refine Wrote.value fun h1 => ?_
    have hs : sized (ev s x) = true := by
      rw [hx]
      rcases h1 with h1 | ⟨sh, y, rfl⟩
      · cases v <;> first | rfl | exact h1
      · rfl
    obtain ⟨v', w', γ', h2, h3, h4⟩ := w_box h (d := d) (dd := some d) (t := t) (ty := ty) (pos := pos) (af := af) (gd := gd) hs
    rw [hx] at h3
    exact ⟨v', w', γ', h2, h3, h4⟩
  · rename_i d bs hx
    refine Wrote.value fun h1 => ?_
    obtain ⟨v', w', γ', h2, h3, h4⟩ := w_box h (d := d) (dd := some d) (t := t) (ty := ty) (pos := pos) (af := af) (gd := gd) (x := x) (by rw [hx]; rfl)
    rw [hx] at h3
    exact ⟨v', w', γ', h2, h3, h4⟩
  · exact Wrote.bad

theorem e_append (hG : LangOK C.P G) (h : Rel C γ s a w) (d : Option Tmp) (args : Array Operand) (ats : Array TypeId) (ty : TypeId) (pos : String) (af : Array Edge) (gd : Option (Nat × Bool)) :
    Wrote C a w N ⟨d, .call { callee := .builtin .append, args := args, argTypes := ats }, ty, pos, af, gd⟩ (ef G C.nl s d (.call { callee := .builtin .append, args := args, argTypes := ats })) := by
  simp only [ef]
  split
  · rename_i d x y t t' ha hat
    have ha' : args = #[x, y] := by rw [← Array.toArray_toList (xs := args), ha]
    have hat' : ats = #[t, t'] := by rw [← Array.toArray_toList (xs := ats), hat]
    subst ha'
    subst hat'
    split
    · rename_i r q hx hy
      split
      · rename_i e e2 sh xss e' sh' ys hr hq
        split
        · rename_i ys' hc
          obtain ⟨rfl, h2⟩ := cast_list hc
          simp only at h2
          subst h2
          refine Wrote.value fun ⟨h1, h2, h3, h4, h5, h6, h7, h8⟩ => ?_
          subst h1
          subst h3
          subst h7
          obtain ⟨hf, hown, hob, hrows⟩ := h.roots r _ hr
          have hx' := ev_rep h x
          rw [hx] at hx'
          exact append_row_core hG h hx' hown hob (fun _ _ => rfl) hrows hy hq h2 hf h6 h5 h4 h8
        · exact Wrote.bad
      · exact Wrote.bad
    · rename_i q hx hy
      split
      · rename_i e' sh' ys sh hq ht
        split
        · rename_i ys' hc
          obtain ⟨rfl, h2⟩ := cast_list hc
          simp only at h2
          subst h2
          refine Wrote.value fun ⟨h1, h2, h3, h4, h5⟩ => ?_
          subst h1
          have hx' := ev_rep h x
          rw [hx] at hx'
          have hq' := h.roots q _ hq
          exact append_row_core hG h (r := d) (xss := []) hx' (World.ownsRow_nil _ _ _ _) (fun k hk => by simp [Value.ownBlock] at hk) (fun b hb => by simp [Value.ownBlock] at hb) (fun i xs hi => by simp at hi) hy hq ht hq'.1 h4 h3 h2 (by simp)
        · exact Wrote.bad
      · exact Wrote.bad
    · rename_i r hx _
      split
      · rename_i e sh xs sh' ys hr hl
        split
        · rename_i ys' hc
          obtain ⟨rfl, h2⟩ := cast_list hc
          simp only at h2
          subst h2
          refine Wrote.value fun ⟨h1, h2, h3, h4, h5, h6⟩ => ?_
          subst h1
          subst h3
          exact w_append_flat hG h hx hr hl h2 h4 h5 h6
        · exact Wrote.bad
      · exact Wrote.bad
    · rename_i hx _
      split
      · rename_i sh' ys sh hl ht
        split
        · rename_i ys' hc
          obtain ⟨rfl, h2⟩ := cast_list hc
          simp only at h2
          subst h2
          refine Wrote.value fun ⟨h1, h2, h3, h4⟩ => ?_
          subst h1
          exact w_append_nil hG h hx hl ht h2 h3 h4
        · exact Wrote.bad
      · exact Wrote.bad
    · rename_i r i hx
      split
      · rename_i e e2 sh xss sh' ys hr hl
        split
        · rename_i ys' hc
          obtain ⟨rfl, h2⟩ := cast_list hc
          simp only at h2
          subst h2
          refine Wrote.value fun ⟨h1, h2, h3, h4, h5, h6, h7, h8⟩ => ?_
          subst h1
          subst h3
          exact w_append_refi hG h hx hr hl h2 h4 h5 h6 h7 h8
        · exact Wrote.bad
      · exact Wrote.bad
    · exact Wrote.bad
  · exact Wrote.bad

/-- **Every operation of part G does what part G says.** -/
theorem ef_sound (hG : LangOK C.P G) (h : Rel C γ s a w) (o : Oper) : Wrote C a w N o (ef G C.nl s o.dst o.op) := by
  obtain ⟨d, op, ty, pos, af, gd⟩ := o
  cases op with
  | store t x y => exact e_store hG h d t x y ty pos af gd
  | buildSlice t n parts => exact e_build hG h d t n parts ty pos af gd
  | makeSlice t l c => exact e_make hG h d t l c ty pos af gd
  | alloc t => exact e_alloc hG h d t ty pos af gd
  | box t x => exact e_box h d t x ty pos af gd
  | call c =>
    obtain ⟨callee, args, ats⟩ := c
    cases callee with
    | builtin b =>
      cases b <;> first
        | exact e_append hG h d args ats ty pos af gd
        | exact Wrote.bad
    | value f => exact Wrote.bad
    | invoke r m => exact Wrote.bad
  | _ => exact Wrote.bad
end
end Go.VS
