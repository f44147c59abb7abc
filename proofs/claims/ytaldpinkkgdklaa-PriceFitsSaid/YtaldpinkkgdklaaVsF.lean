/- Value semantics, part F: literals of slices and structs, len, min, max; all operations that write nothing together. Over any program; no condition. -/
import Derived.Test.YtaldpinkkgdklaaVsE
namespace Go.VS
open Go.RowKit
set_option linter.unusedSimpArgs false
set_option linter.unusedVariables false

section
variable {C : Ctx} {G : Lang} {γ : Gam} {s : AS} {a : Act} {w : World}

theorem y_len (hG : LangOK C.P G) (h : Rel C γ s a w) (d : Option Tmp) (args : Array Operand) (ats : Array TypeId) (ty : TypeId) (pos : String) (af : Array Edge) (gd : Option (Nat × Bool)) :
    Yields C γ a w ⟨d, .call { callee := .builtin .len, args := args, argTypes := ats }, ty, pos, af, gd⟩ (pv G s (.call { callee := .builtin .len, args := args, argTypes := ats })) := by
  simp only [pv]
  split
  · rename_i x t ea et
    have ea' : args = #[x] := by cases args; simp_all
    have et' : ats = #[t] := by cases ats; simp_all
    subst ea' et'
    have hx := ev_rep h x
    have run : ∀ {e : TypeId} {ad : Option Addr} {n c : Nat}, C.P.underlying t = some (.slice e) → a.eval x = .slice ad n c →
        (execOp a.eval ⟨d, .call { callee := .builtin .len, args := #[x], argTypes := #[t] }, ty, pos, af, gd⟩).run C.P w = .ok (.value (.int .i64 n)) w := by
      intro e ad n c hu hv
      simp [execOp, resolve, invoke, builtin, hv, Builtin.len_, run_underlying hu, goInt]
    split
    · rename_i sh xs ex
      rw [ex] at hx
      obtain ⟨cs, ⟨ad, cap, rfl, _⟩, hv⟩ := hx
      exact fun ht => ⟨_, w, run (hG.sl t sh ht).1 hv, Keep.refl _ _, mk_int _⟩
    · rename_i b ex
      rw [ex] at hx
      have hx := rep_str hx
      exact fun ht => ⟨_, w, by simp [execOp, resolve, invoke, builtin, hx, Builtin.len_, run_underlying (hG.str t ht), goInt], Keep.refl _ _, mk_int _⟩
    · rename_i ex
      rw [ex] at hx
      simp only [svRep, bvRep] at hx
      rintro ⟨sh, ht⟩
      exact ⟨_, w, run (hG.sl t sh ht).1 hx, Keep.refl _ _, mk_int _⟩
    · rename_i r ex
      rw [ex] at hx
      simp only [svRep, bvRep] at hx
      split
      · rename_i e sh xs hr
        obtain ⟨ad, cap, hg, _⟩ := own_slice (h.roots r _ hr).2.1
        exact fun ht => ⟨_, w, run (hG.sl t _ ht).1 (hx.trans hg), Keep.refl _ _, mk_int _⟩
      · rename_i e e2 sh xss hr
        obtain ⟨ad, cap, hg, _⟩ := own_slice (h.roots r _ hr).2.1
        exact fun ht => ⟨_, w, run (hG.sl t _ ht).1 (hx.trans hg), Keep.refl _ _, mk_int _⟩
      · rename_i e e2 sh xss k hr
        obtain ⟨ad, cap, hg, _⟩ := own_slice (h.roots r _ hr).2.1
        exact fun ht => ⟨_, w, run (hG.sl t _ ht).1 (hx.trans hg), Keep.refl _ _, mk_int _⟩
      · exact Yields.bad
    · rename_i r i ex
      rw [ex] at hx
      simp only [svRep, bvRep] at hx
      split
      · rename_i e e2 sh xss hr
        rintro ⟨ht, hi⟩
        have hgi : xss.getD i [] = xss[i] := by simp [List.getD_eq_getElem?_getD, hi]
        rw [hgi]
        obtain ⟨ad, cap, hg, _⟩ := own_slice ((h.roots r _ hr).2.2.2 i xss[i] (by simp [hi])).1
        exact ⟨_, w, run (hG.sl t _ ht).1 (hx.trans hg), Keep.refl _ _, mk_int _⟩
      · exact Yields.bad
    · exact Yields.bad
  · exact Yields.bad

theorem y_min (h : Rel C γ s a w) (d : Option Tmp) (args : Array Operand) (ats : Array TypeId) (ty : TypeId) (pos : String) (af : Array Edge) (gd : Option (Nat × Bool)) :
    Yields C γ a w ⟨d, .call { callee := .builtin .min, args := args, argTypes := ats }, ty, pos, af, gd⟩ (pv G s (.call { callee := .builtin .min, args := args, argTypes := ats })) := by
  simp only [pv]
  split
  · rename_i x y ea
    have ea' : args = #[x, y] := by cases args; simp_all
    subst ea'
    have hx := ev_rep h x
    have hy := ev_rep h y
    split
    · rename_i n m ex ey
      rw [ex] at hx; rw [ey] at hy
      have hx := rep_int hx
      have hy := rep_int hy
      have hm : ∀ p q : Int, (if q < p then q else p) = min p q := fun p q => by omega
      refine fun _ => ⟨.int .i64 (min (n : Int) m), w, ?_, Keep.refl _ _, mk_int _⟩
      simp [execOp, resolve, invoke, builtin, hx, hy, Builtin.min_, Builtin.min2, hm]
    · exact Yields.bad
  · exact Yields.bad

theorem y_max (h : Rel C γ s a w) (d : Option Tmp) (args : Array Operand) (ats : Array TypeId) (ty : TypeId) (pos : String) (af : Array Edge) (gd : Option (Nat × Bool)) :
    Yields C γ a w ⟨d, .call { callee := .builtin .max, args := args, argTypes := ats }, ty, pos, af, gd⟩ (pv G s (.call { callee := .builtin .max, args := args, argTypes := ats })) := by
  simp only [pv]
  split
  · rename_i x y ea
    have ea' : args = #[x, y] := by cases args; simp_all
    subst ea'
    have hx := ev_rep h x
    have hy := ev_rep h y
    split
    · rename_i n m ex ey
      rw [ex] at hx; rw [ey] at hy
      have hx := rep_int hx
      have hy := rep_int hy
      have hm : ∀ p q : Int, (if p < q then q else p) = max p q := fun p q => by omega
      refine fun _ => ⟨.int .i64 (max (n : Int) m), w, ?_, Keep.refl _ _, mk_int _⟩
      simp [execOp, resolve, invoke, builtin, hx, hy, Builtin.max_, Builtin.max2, hm]
    · exact Yields.bad
  · exact Yields.bad

/-! ### Filling a literal -/
theorem foldl_set_seq : ∀ (cs : List Value) (k : Nat) (arr : Array Value) (n : Nat), (cs.zipIdx n).foldl (fun (A : Array Value) (p : Value × Nat) => A.setIfInBounds (k + p.2) p.1) arr =
    (cs.zipIdx n).foldl (fun (A : Array Value) (p : Value × Nat) => A.setIfInBounds (k + p.2) p.1) arr := fun _ _ _ _ => rfl

theorem fold_cells : ∀ (cs : List Value) (o n : Nat) (pre old post : List Value), pre.length = o + n → old.length = cs.length →
    (cs.zipIdx n).foldl (fun (A : Array Value) (p : Value × Nat) => A.setIfInBounds (o + p.2) p.1) (pre ++ old ++ post).toArray = (pre ++ cs ++ post).toArray
  | [], o, n, pre, old, post, _, hl => by
    have : old = [] := by simpa using hl
    subst this; rfl
  | c :: cs, o, n, pre, old, post, hp, hl => by
    cases old with
    | nil => simp at hl
    | cons u old =>
      simp only [List.zipIdx_cons, List.foldl_cons]
      have h1 : (pre ++ u :: old ++ post).toArray.setIfInBounds (o + n) c = ((pre ++ [c]) ++ old ++ post).toArray := by
        apply Array.ext'
        simp [← hp]
      rw [h1, fold_cells cs o (n + 1) (pre ++ [c]) old post (by simp [hp]; omega) (by simpa using hl)]
      simp

theorem fold_cells_arr (v : Value) (o : Nat) (pre old post : List Value) (hp : pre.length = o) (hl : old.length = v.cells.toList.length) :
    v.cells.zipIdx.foldl (fun (A : Array Value) (p : Value × Nat) => A.setIfInBounds (o + p.2) p.1) (pre ++ old ++ post).toArray = (pre ++ v.cells.toList ++ post).toArray := by
  have h := fold_cells v.cells.toList o 0 pre old post (by simpa using hp) hl
  rw [← h, ← Array.foldl_toList, Array.toList_zipIdx]

/-- A slice's literal whose elements come in order. -/
theorem fill_seq (sz : Nat) : ∀ (vs : List Value) (k : Nat) (pre old : List Value), (∀ v ∈ vs, v.cells.toList.length = sz) → pre.length = k * sz → old.length = vs.length * sz →
    Instr.fill (fun i => some (i * sz, sz)) (pre ++ old).toArray ((vs.zipIdx k).map fun p => (p.2, p.1)) = some (pre ++ vs.flatMap fun v => v.cells.toList).toArray
  | [], k, pre, old, _, _, ho => by
    have : old = [] := by simpa using ho
    subst this
    simp [Instr.fill]
  | v :: vs, k, pre, old, hv, hp, ho => by
    have h1 := hv v (by simp)
    have h1' : v.cells.size = sz := by simpa using h1
    have hol : old.length = sz + vs.length * sz := by rw [ho, List.length_cons, Nat.add_mul]; omega
    simp only [List.zipIdx_cons, List.map_cons, Instr.fill]
    rw [if_neg (by
      simp only [h1', ne_eq, not_true_eq_false, List.size_toArray, List.length_append, hp, Bool.or_eq_true, decide_eq_true_eq, false_or, Bool.or_false, gt_iff_lt]
      simp; omega)]
    have h2 : pre ++ old = pre ++ old.take sz ++ old.drop sz := by simp
    rw [h2, fold_cells_arr v (k * sz) pre (old.take sz) (old.drop sz) hp (by simp [h1']; omega)]
    have ih := fill_seq sz vs (k + 1) (pre ++ v.cells.toList) (old.drop sz) (fun x hx => hv x (by simp [hx])) (by simp [hp, h1', Nat.add_mul]) (by simp [hol])
    rw [ih]
    simp

theorem pack_size {sh : Sh} {x : sh.T} {Z : Nat → Prop} {cs : List Value} (h : pers w Z sh x cs) : (pack sh cs).cells.toList.length = sh.size := by rw [pack_cells sh x cs h, pers_len sh x cs h]

theorem allVals_rep {sh : Sh} : ∀ (svs : List SV) (vs : List Value) (xs : List sh.T), allVals sh svs = some xs → svs.length = vs.length → (∀ (i : Nat) (sv : SV) (v : Value), svs[i]? = some sv → vs[i]? = some v → svRep C γ w sv v) →
    xs.length = vs.length ∧ ∀ i, (hi : i < xs.length) → ∃ v, vs[i]? = some v ∧ vrep w (C.zn γ) sh xs[i] v
  | [], [], xs, h, _, _ => by simp [allVals] at h; subst h; simp
  | [], _ :: _, _, _, hl, _ => by simp at hl
  | _ :: _, [], _, _, hl, _ => by simp at hl
  | sv :: svs, v :: vs, xs, h, hl, hr => by
    have h0 := hr 0 sv v rfl rfl
    unfold allVals at h
    split at h
    · rename_i e; cases e
    · rename_i s x l e
      simp only [List.cons.injEq] at e
      obtain ⟨rfl, rfl⟩ := e
      split at h
      · rename_i hs
        subst hs
        simp only [Option.map_eq_some_iff] at h
        obtain ⟨r, hr', rfl⟩ := h
        obtain ⟨ih1, ih2⟩ := allVals_rep svs vs r hr' (by simpa using hl) (fun i sv v h1 h2 => hr (i + 1) sv v (by simpa using h1) (by simpa using h2))
        refine ⟨by simp [ih1], fun i hi => ?_⟩
        cases i with
        | zero => exact ⟨v, rfl, h0⟩
        | succ i => simpa using ih2 i (by simpa using hi)
      · cases h
    · simp at h

theorem flatMap_get_mem (f : Value → List Value) (sz : Nat) : ∀ (xs : List Value) (hf : ∀ x ∈ xs, (f x).length = sz) (i j : Nat) (hi : i < xs.length), j < sz → (xs.flatMap f)[i * sz + j]? = (f xs[i])[j]?
  | x :: xs, hf, 0, j, _, hj => by simp [List.getElem?_append, hf x (by simp), hj]
  | x :: xs, hf, i + 1, j, hi, hj => by
    have h0 := hf x (by simp)
    have h1 : (i + 1) * sz + j = (f x).length + (i * sz + j) := by rw [h0, Nat.add_mul]; omega
    rw [List.flatMap_cons, h1, List.getElem?_append_right (by omega), Nat.add_sub_cancel_left]
    simpa using flatMap_get_mem f sz xs (fun y hy => hf y (by simp [hy])) i j (by simpa using hi) hj

theorem run_buildSlice (hG : LangOK C.P G) {t : TypeId} {n : Nat} {parts : Array (Nat × Operand)} {sh : Sh} {vs : List Value} (ht : G.sh t = some (.sl sh)) (hidx : parts.toList.map (·.1) = List.range n) (hn : n ≤ 1000) (hvs : vs = parts.toList.map (fun p => a.eval p.2))
    (hsz : ∀ v ∈ vs, v.cells.toList.length = sh.size) : (Instr.buildSlice t n (parts.map fun p => (p.1, a.eval p.2))).run C.P w = .ok (.slice (some ⟨w.heap.size, 0, none⟩) n n) (w.alloc (.cells (vs.flatMap fun v => v.cells.toList).toArray (G.el t))) := by
  obtain ⟨hu, he, hpos⟩ := hG.sl t sh ht
  obtain ⟨i0, z, hi0, hs, hby, hz, hzc⟩ := hG.info _ sh he
  have hparts : List.map (fun p => (p.1, a.eval p.2)) parts.toList = (vs.zipIdx 0).map fun p => (p.2, p.1) := by
    rw [hvs]
    have hlen : parts.toList.length = n := by have := congrArg List.length hidx; simpa using this
    apply List.ext_getElem?
    intro i
    simp only [List.getElem?_map, List.getElem?_zipIdx, Option.map_map]
    rcases Nat.lt_or_ge i parts.toList.length with hi | hi
    · have h1 : (parts.toList.map (·.1))[i]? = (List.range n)[i]? := by rw [hidx]
      simp only [List.getElem?_map, List.getElem?_eq_getElem hi, Option.map_some] at h1 ⊢
      rw [List.getElem?_range (by omega)] at h1
      simp only [Option.some.injEq] at h1
      simp only [Function.comp]
      rw [h1, Nat.zero_add]
    · simp [List.getElem?_eq_none hi]
  have hvl : vs.length = n := by
    rw [hvs, List.length_map]
    have := congrArg List.length hidx
    simpa using this
  have hzl : z.cells.size = sh.size := by have := congrArg List.length hzc; rw [cells_len] at this; simpa using this
  have hbig : ¬ (n * sh.size > 16777216) := by
    have := Nat.mul_le_mul hn hpos.2
    omega
  have hfill : Instr.fill (fun i => some (i * sh.size, sh.size)) ((Array.range (n * sh.size)).map (z.cells[· % z.cells.size]!)) ((vs.zipIdx 0).map fun p => (p.2, p.1)) = some (vs.flatMap fun v => v.cells.toList).toArray := by
    have := fill_seq sh.size vs 0 [] ((Array.range (n * sh.size)).map (z.cells[· % z.cells.size]!)).toList hsz (by simp) (by simp [hvl])
    rw [List.nil_append, List.nil_append, Array.toArray_toList] at this
    exact this
  by_cases h0 : n * sh.size = 0
  · have hn0 : n = 0 := by rcases Nat.mul_eq_zero.1 h0 with h1 | h1 <;> omega
    subst hn0
    have hv0 : vs = [] := by simpa using hvl
    subst hv0
    have hparts' : List.map (fun p => (p.1, a.eval p.2)) parts.toList = [] := hparts
    simp [Instr.buildSlice, run_underlying hu, run_sizeOf hi0, hs, hparts', Instr.fill, newRow, Array.range_zero']
  · simp only [Instr.buildSlice, Sem.run_bind, run_underlying hu, Result.andThen_ok, run_sizeOf hi0, hs]
    rw [if_neg hbig]
    simp [h0, zeroValue, typeInfo, hi0, hz, hparts, hfill, newRow]

theorem y_buildSlice (hG : LangOK C.P G) (h : Rel C γ s a w) (d : Option Tmp) (t : TypeId) (n : Nat) (parts : Array (Nat × Operand)) (ty : TypeId) (pos : String) (af : Array Edge) (gd : Option (Nat × Bool)) :
    Yields C γ a w ⟨d, .buildSlice t n parts, ty, pos, af, gd⟩ (pv G s (.buildSlice t n parts)) := by
  have head : ∀ (vs : List Value), (execOp a.eval ⟨d, .buildSlice t n parts, ty, pos, af, gd⟩) = (do let y ← Instr.buildSlice t n (parts.map fun p => (p.1, a.eval p.2)); pure (Next.value y)) := fun _ => rfl
  have cellNew : ∀ (cs : List Value) (j : Nat), (w.alloc (.cells cs.toArray (G.el t))).cell? ⟨w.heap.size, j, none⟩ = cs[j]? := fun cs j => by
    rw [cell_of_row _ _ j cs.toArray (G.el t) (0, 0) (heap_alloc_new w _)]; simp
  have kept : ∀ o, Keep (fun _ => False) w (w.alloc o) := fun o => ⟨rfl, rfl, rfl, by simp, fun k hk _ => Below.heap_alloc w o k hk⟩
  have fresh : γ.own w.heap.size = none := by
    cases ho : γ.own w.heap.size with
    | none => rfl
    | some l => have := h.ownlt _ _ ho; omega
  have hzn : C.zn γ w.heap.size := ⟨.inr (.inl h.keep.size), fresh⟩
  simp only [pv]
  split
  · rename_i sh ht
    split
    · rename_i xs hxs
      rintro ⟨hidx, hn⟩
      obtain ⟨hl, hget⟩ := allVals_rep (C := C) (γ := γ) (w := w) _ (parts.toList.map fun p => a.eval p.2) xs hxs (by simp) (fun i sv v h1 h2 => by
        rw [List.getElem?_map, Option.map_eq_some_iff] at h1 h2
        obtain ⟨o, h3, rfl⟩ := h1
        obtain ⟨o', h4, rfl⟩ := h2
        rw [h3] at h4
        obtain rfl : o = o' := by simpa using h4
        exact ev_rep h o.2)
      have hnl : n = xs.length := by
        rw [hl, List.length_map]
        have := congrArg List.length hidx
        simpa using this.symm
      have hsz : ∀ v ∈ (parts.toList.map fun p => a.eval p.2), v.cells.toList.length = sh.size := by
        intro v hv
        obtain ⟨i, hi, hvi⟩ := List.getElem_of_mem hv
        obtain ⟨u, h1, c, hp, h2⟩ := hget i (by rw [hl]; exact hi)
        rw [List.getElem?_eq_getElem hi, hvi] at h1
        obtain rfl : v = u := by simpa using h1
        rw [h2]; exact pack_size hp
      have hr := run_buildSlice (a := a) (w := w) hG ht hidx hn rfl hsz
      refine ⟨_, _, run_v hr, kept _, [_], ⟨_, n, by rw [hnl], by omega, by unfold maxLen; omega, fun i hi => ?_⟩, rfl⟩
      obtain ⟨u, h1, c, hp, h2⟩ := hget i hi
      have hsub : Sub C γ w γ (w.alloc (.cells ((parts.toList.map fun p => a.eval p.2).flatMap fun v => v.cells.toList).toArray (G.el t))) := Sub.of_keep (kept _)
      refine ⟨w.heap.size, 0, c, rfl, hzn, by simp, pers_mono hsub.size hsub.zn sh _ _ hp, fun j v hj => ?_⟩
      rw [cellNew, Nat.zero_add]
      have hcl : ∀ v ∈ (parts.toList.map fun p => a.eval p.2), v.cells.toList.length = sh.size := hsz
      have hjl : j < sh.size := by have := (List.getElem?_eq_some_iff.1 hj).1; rwa [pers_len sh _ _ hp] at this
      have hil : i < (parts.toList.map fun p => a.eval p.2).length := by rw [← hl]; exact hi
      rw [flatMap_get_mem _ sh.size _ hcl i j hil hjl]
      rw [List.getElem?_eq_getElem hil] at h1
      simp only [Option.some.injEq] at h1
      rw [h1, h2, pack_cells sh _ c hp]
      exact hj
    · split
      · rename_i x ep
        split
        · rename_i r sh' ex _ _
          intro hroot
          have ep' : parts = #[(0, x)] := by cases parts; simp_all
          subst ep'
          have hx := ev_rep h x
          rw [ex] at hx
          simp only [svRep, bvRep] at hx
          have hr := run_buildSlice (a := a) (w := w) (parts := #[(0, x)]) (n := 1) (vs := [a.eval x]) hG ht (by simp) (by omega) (by simp) (fun v hv => by simp at hv; subst hv; rw [hx]; rfl)
          refine ⟨_, _, run_v hr, kept _, w.heap.size, 1, rfl, hzn, by simp, ?_⟩
          rw [hx]
          simp [Gam.hd, Sl.v, Value.cells]
        · exact Yields.bad
      · exact Yields.bad
  · exact Yields.bad

/-! ### Structs -/
theorem bvsRep_append : ∀ (bs bs' : List BV) (cs cs' : List Value), bvsRep C γ w bs cs → bvsRep C γ w bs' cs' → bvsRep C γ w (bs ++ bs') (cs ++ cs')
  | [], bs', cs, cs', h, h' => by simp only [bvsRep] at h; subst h; exact h'
  | b :: bs, bs', cs, cs', h, h' => by
    obtain ⟨v, vs, rfl, h1, h2⟩ := h
    exact ⟨v, vs ++ cs', rfl, h1, bvsRep_append bs bs' vs cs' h2 h'⟩

theorem zero_rep : ∀ (sh : Sh), bvsRep C γ w (zeroCells sh) (sh.cells sh.zero)
  | .unit => rfl
  | .prod p q => bvsRep_append _ _ _ _ (zero_rep p) (zero_rep q)
  | .sl _ => ⟨_, [], rfl, rfl, rfl⟩
  | .int => ⟨_, [], rfl, ⟨_, rfl, rfl⟩, rfl⟩
  | .bool => ⟨_, [], rfl, ⟨_, rfl, rfl⟩, rfl⟩
  | .str => ⟨_, [], rfl, ⟨_, rfl, rfl⟩, rfl⟩
  | .byte => ⟨_, [], rfl, ⟨_, rfl, rfl⟩, rfl⟩

theorem bvsRep_set : ∀ (bs : List BV) (cs : List Value) (i : Nat) (b : BV) (v : Value), bvsRep C γ w bs cs → bvRep C γ w b v → bvsRep C γ w (bs.set i b) (cs.set i v)
  | [], cs, i, b, v, h, _ => by simp only [bvsRep] at h; subst h; rfl
  | _ :: _, cs, 0, b, v, h, hv => by
    obtain ⟨u, us, rfl, _, h2⟩ := h
    exact ⟨v, us, rfl, hv, h2⟩
  | c :: bs, cs, i + 1, b, v, h, hv => by
    obtain ⟨u, us, rfl, h1, h2⟩ := h
    exact ⟨u, us.set i v, rfl, h1, bvsRep_set bs us i b v h2 hv⟩

theorem set_fill (n : Nat) : ∀ (l : List (Nat × SV)) (ps : List (Nat × Value)) (bs bs' : List BV) (cs : List Value), setParts l bs = some bs' → bs.length = n → l.map (·.1) = ps.map (·.1) →
    (∀ (i : Nat) (p : Nat × SV) (q : Nat × Value), l[i]? = some p → ps[i]? = some q → svRep C γ w p.2 q.2) → bvsRep C γ w bs cs → (∀ u ∈ cs, u.oneCell' = true) →
    ∃ cs', Instr.fill (fun i => ((List.range n).map fun k => (k, 1)).toArray[i]?) cs.toArray ps = some cs'.toArray ∧ bvsRep C γ w bs' cs' ∧ ∀ u ∈ cs', u.oneCell' = true
  | [], [], bs, bs', cs, h, _, _, _, hr, ho => by
    simp only [setParts, Option.some.injEq] at h
    subst h
    exact ⟨cs, rfl, hr, ho⟩
  | [], _ :: _, _, _, _, _, _, he, _, _, _ => by simp at he
  | _ :: _, [], _, _, _, _, _, he, _, _, _ => by simp at he
  | (k, .tup _) :: l, (k', v) :: ps, bs, bs', cs, h, hl, he, hv, hr, ho => by simp [setParts] at h
  | (k, .rcd _) :: l, (k', v) :: ps, bs, bs', cs, h, hl, he, hv, hr, ho => by simp [setParts] at h
  | (k, .one b) :: l, (k', v) :: ps, bs, bs', cs, h, hl, he, hv, hr, ho => by
    have h0 : bvRep C γ w b v := hv 0 (k, .one b) (k', v) rfl rfl
    simp only [List.map_cons, List.cons.injEq] at he
    obtain ⟨rfl, he'⟩ := he
    simp only [setParts] at h
    split at h
    · rename_i hb
      have hcs := bvsRep_len bs cs hr
      have hc := single_cells hb.2 h0
      have hc' : v.cells = #[v] := by apply Array.ext'; simpa using hc
      have ho1 := single_one hb.2 h0
      obtain ⟨cs', h1, h2, h3⟩ := set_fill n l ps (bs.set k b) bs' (cs.set k v) h (by simpa using hl) he' (fun i p q h1 h2 => hv (i + 1) p q (by simpa using h1) (by simpa using h2))
        (bvsRep_set bs cs k b v hr h0) (fun u hu => by
          rcases List.mem_or_eq_of_mem_set hu with h | h
          · exact ho u h
          · rw [h]; exact ho1)
      refine ⟨cs', ?_, h2, h3⟩
      have hk : k < n := by rw [← hl]; exact hb.1
      have hpl : (fun i => ((List.range n).map fun k => (k, 1)).toArray[i]?) k = some (k, 1) := by simp [hk]
      unfold Instr.fill
      simp only [hpl]
      have hkc : ¬ (k + 1 > cs.length) := by omega
      rw [if_neg (by simp [hc', hkc])]
      have hset : v.cells.zipIdx.foldl (fun (A : Array Value) (p : Value × Nat) => A.setIfInBounds (k + p.2) p.1) cs.toArray = (cs.set k v).toArray := by
        rw [hc']
        apply Array.ext'
        simp
      rw [hset]
      exact h1
    · cases h

theorem y_build (hG : LangOK C.P G) (h : Rel C γ s a w) (d : Option Tmp) (t : TypeId) (parts : Array (Nat × Operand)) (ty : TypeId) (pos : String) (af : Array Edge) (gd : Option (Nat × Bool)) :
    Yields C γ a w ⟨d, .build t parts, ty, pos, af, gd⟩ (pv G s (.build t parts)) := by
  simp only [pv]
  split
  · rename_i sh n ht hn
    split
    · rename_i bs hbs
      rintro ⟨hl, hagg⟩
      obtain ⟨fs, i, z, hu, hi, hsz, hz, hzs, hpl⟩ := hG.ones t n hn
      obtain ⟨i', z', hi', hsz', _, hz', hzc⟩ := hG.info t sh ht
      rw [hi] at hi'
      obtain rfl : i = i' := by simpa using hi'
      rw [hz] at hz'
      obtain rfl : Value.agg z = z' := by simpa using hz'
      have hzl : z.toList = sh.cells sh.zero := hzc
      obtain ⟨cs', h1, h2, h3⟩ := set_fill (C := C) (γ := γ) (w := w) n _ (parts.map fun p => (p.1, a.eval p.2)).toList _ bs (sh.cells sh.zero) hbs hl (by simp [Function.comp_def]) (fun i p q hp hq => by
        rw [List.getElem?_map, Option.map_eq_some_iff] at hp
        rw [Array.toList_map, List.getElem?_map, Option.map_eq_some_iff] at hq
        obtain ⟨o, e1, rfl⟩ := hp
        obtain ⟨o', e2, rfl⟩ := hq
        rw [e1] at e2
        obtain rfl : o = o' := by simpa using e2
        exact ev_rep h o.2) (zero_rep sh) (cells_one sh sh.zero)
      have hrun : (Instr.build t (parts.map fun p => (p.1, a.eval p.2))).run C.P w = .ok (.agg cs'.toArray) w := by
        refine run_build w t _ _ ?_
        unfold Program.built
        simp only [hi, hu, hz, hpl, Value.cells]
        rw [← h1, ← hzl]
      refine ⟨_, w, run_v hrun, Keep.refl _ _, ?_⟩
      exact mkStruct_rep hagg h2 h3
    · exact Yields.bad
  · exact Yields.bad

/-- **Every operation of part C yields what part C says.** -/
theorem pv_sound (hG : LangOK C.P G) (h : Rel C γ s a w) (o : Oper) : Yields C γ a w o (pv G s o.op) := by
  obtain ⟨d, op, ty, pos, af, gd⟩ := o
  cases op with
  | move x => exact y_move h d x ty pos af gd
  | assign x => exact y_assign h d x ty pos af gd
  | pick c x y => exact y_pick h d c x y ty pos af gd
  | load t x => exact y_load hG h d t x ty pos af gd
  | nilCheck x => exact y_nilCheck h d x ty pos af gd
  | binOp op t x y yt => exact y_bin hG h d op t x y yt ty pos af gd
  | unOp op t x => exact y_unOp h d op t x ty pos af gd
  | convert src dst x => exact y_convert hG h d src dst x ty pos af gd
  | fieldAddr t x f => exact y_fieldAddr hG h d t x f ty pos af gd
  | field t x f => exact y_field hG h d t x f ty pos af gd
  | indexAddr t x i => exact y_indexAddr hG h d t x i ty pos af gd
  | index t x i => exact y_index hG h d t x i ty pos af gd
  | slice t x lo hi mx => exact y_slice hG h d t x lo hi mx ty pos af gd
  | extract x i => exact y_extract h d x i ty pos af gd
  | build t parts => exact y_build hG h d t parts ty pos af gd
  | buildSlice t n parts => exact y_buildSlice hG h d t n parts ty pos af gd
  | makeFunc fn first captured => exact y_makeFunc h d fn first captured ty pos af gd
  | call c =>
    obtain ⟨callee, args, ats⟩ := c
    cases callee with
    | builtin b =>
      cases b <;> first
        | exact y_len hG h d args ats ty pos af gd
        | exact y_min h d args ats ty pos af gd
        | exact y_max h d args ats ty pos af gd
        | exact Yields.bad
    | value f => exact Yields.bad
    | invoke r m => exact Yields.bad
  | _ => exact Yields.bad
end
end Go.VS
