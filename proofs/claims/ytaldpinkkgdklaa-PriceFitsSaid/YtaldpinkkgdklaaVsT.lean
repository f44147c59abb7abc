/- Value semantics, part T: tables of types, and what must be reckoned of them. Over any program; no condition. -/
import Derived.Test.YtaldpinkkgdklaaVsS
namespace Go.VS
open Go.RowKit
set_option linter.unusedSimpArgs false
set_option linter.unusedVariables false

structure Tab where
  sh : List (Nat × Sh)
  el : List (Nat × Nat)
  plain : List Nat
  fld : List (Nat × List (Nat × Nat))
  ones : List (Nat × Nat)
  fns : List Nat

def Tab.lang (T : Tab) : Lang where
  sh t := lk none (T.sh.map fun p => (p.1, some p.2)) t
  el t := lk 0 T.el t
  plain t := T.plain.elem t
  fld t f := match lk none (T.fld.map fun p => (p.1, some p.2)) t with
    | some l => match l[f]? with
      | some q => some (l.length, q.1)
      | none => none
    | none => none
  ones t := lk none (T.ones.map fun p => (p.1, some p.2)) t
  fplain t f := match lk none (T.fld.map fun p => (p.1, some p.2)) t with
    | some l => match l[f]? with
      | some q => T.plain.elem q.2
      | none => false
    | none => false
  fnT t := T.fns.elem t

def tailS : Nat → Nat → Sh → Option Sh
  | 1, 0, s => some s
  | _ + 2, 0, .prod a _ => some a
  | n + 2, f + 1, .prod _ b => tailS (n + 1) f b
  | _, _, _ => none

def oneS : Nat → Sh → Option Sh
  | 0, .prod a .unit => some a
  | _, _ => none

def fieldS (n f : Nat) (s : Sh) : Option Sh := match n with
  | 1 => oneS f s
  | n => tailS n f s

theorem tailF_S : ∀ (n f : Nat) (s : Sh) (x : s.T) (s' : Sh) (y : s'.T), tailF n f s x = some ⟨s', y⟩ → tailS n f s = some s'
  | 0, _, _, _, _, _, h => by simp [tailF] at h
  | 1, 0, s, x, s', y, h => by
    simp only [tailF, Option.some.injEq, Sigma.mk.injEq] at h
    simp only [tailS, h.1]
  | 1, _ + 1, _, _, _, _, h => by simp [tailF] at h
  | _ + 2, 0, .prod a b, x, s', y, h => by
    simp only [tailF, Option.some.injEq, Sigma.mk.injEq] at h
    simp only [tailS, h.1]
  | n + 2, f + 1, .prod a b, x, s', y, h => by
    simp only [tailF] at h
    simp only [tailS]
    exact tailF_S (n + 1) f b x.2 s' y h
  | _ + 2, _, .int, _, _, _, h | _ + 2, _, .bool, _, _, _, h | _ + 2, _, .str, _, _, _, h | _ + 2, _, .byte, _, _, _, h | _ + 2, _, .unit, _, _, _, h | _ + 2, _, .sl _, _, _, _, h => by simp [tailF] at h

theorem fieldV_S {n f : Nat} {s : Sh} {x : s.T} {s' : Sh} {y : s'.T} (h : fieldV n f s x = some ⟨s', y⟩) : fieldS n f s = some s' := by
  match n, h with
  | 0, h => exact tailF_S 0 f s x s' y h
  | 1, h =>
    simp only [fieldV] at h
    simp only [fieldS]
    unfold oneF at h
    split at h
    · simp only [Option.some.injEq, Sigma.mk.injEq] at h
      simp only [oneS, h.1]
    · simp at h
  | n + 2, h => exact tailF_S (n + 2) f s x s' y h

def descOf (G : Lang) (t : Nat) : Sh → TypeDesc
  | .int => .int .i64
  | .byte => .int .u8
  | .bool => .bool
  | .str => .string
  | .sl _ => .slice (G.el t)
  | _ => .bool

structure TabOK (P : Program) (T : Tab) : Prop where
  info : T.sh.map (fun p => (P.info? p.1).map fun i => (i.size, decide (i.bytes ≤ 1024), i.zero.map fun z => z.cells.toList)) = T.sh.map fun p => some (p.2.size, true, some (p.2.cells p.2.zero))
  under : T.sh.map (fun p => (P.underlying p.1).map fun d => (aggB d, if p.2.agg then none else some d)) = T.sh.map fun p => some (p.2.agg, if p.2.agg then none else some (descOf T.lang p.1 p.2))
  slB : T.sh.all (fun p => match p.2 with
    | .sl a => decide (T.lang.sh (T.lang.el p.1) = some a) && decide (0 < a.size) && decide (a.size ≤ 1024)
    | _ => true) = true
  plain : T.plain.map (fun t => ((P.underlying t).map aggB, (P.info? t).map fun i => i.size)) = T.plain.map fun _ => (some false, some 1)
  fldE : T.fld.map (fun p => match P.underlying p.1 with
    | some (.struct fs) => fs.toList.map fun x => (x.offset, x.type, (P.info? x.type).map fun i => i.size != 0)
    | _ => []) = T.fld.map fun p => p.2.map fun q => (q.1, q.2, some true)
  fldS : T.fld.all (fun p => match T.lang.sh p.1 with
    | some s => s.agg && (List.range p.2.length).all fun f => decide (fieldO p.2.length f s = (p.2[f]?).map (·.1)) && (match fieldS p.2.length f s with
      | some s' => decide ((p.2[f]?).bind (fun q => T.lang.sh q.2) = some s')
      | none => true)
    | none => true) = true
  ones : T.ones.map (fun p => match P.underlying p.1, P.info? p.1 with
    | some (.struct fs), some i => match i.zero with
      | some (.agg z) => some (i.size, z.size, fs.toList.mapM fun f => (P.info? f.type).map fun i => (f.offset, i.size))
      | _ => none
    | _, _ => none) = T.ones.map fun p => some (p.2, p.2, some ((List.range p.2).map fun k => (k, 1)))
  pair : ∀ t, T.lang.sh t = some (.prod .int .int) → ∀ (w : World) (a b c d : Int) (x y : Operand),
    (do eqGuard .eql t x y (.agg #[.int .i64 a, .int .i64 b]) (.agg #[.int .i64 c, .int .i64 d]); binOp .eql t (.agg #[.int .i64 a, .int .i64 b]) (.agg #[.int .i64 c, .int .i64 d])).run P w = .ok (.bool (a == c && b == d)) w ∧
    (do eqGuard .neq t x y (.agg #[.int .i64 a, .int .i64 b]) (.agg #[.int .i64 c, .int .i64 d]); binOp .neq t (.agg #[.int .i64 a, .int .i64 b]) (.agg #[.int .i64 c, .int .i64 d])).run P w = .ok (.bool (!(a == c && b == d))) w
  mixed : P.follows .mixedOrders = true
  fns : T.fns.map (fun t => (P.info? t).bind fun i => i.zero) = T.fns.map fun _ => some .nilFunc

section
variable {P : Program} {T : Tab}

theorem map_eq_mem {α β : Type} {f g : α → β} : ∀ {l : List α}, l.map f = l.map g → ∀ x ∈ l, f x = g x
  | [], _, x, hx => by simp at hx
  | a :: l, h, x, hx => by
    simp only [List.map_cons, List.cons.injEq] at h
    rcases List.mem_cons.1 hx with rfl | hx
    · exact h.1
    · exact map_eq_mem h.2 x hx

theorem sh_mem {t : Nat} {s : Sh} (h : T.lang.sh t = some s) : (t, s) ∈ T.sh := by
  obtain ⟨v, h1, h2⟩ := lk_inv (g := fun x : Sh => x) h
  rw [h2]; exact h1

theorem fld_mem {t f n off : Nat} (h : T.lang.fld t f = some (n, off)) : ∃ l q, (t, l) ∈ T.fld ∧ l[f]? = some q ∧ n = l.length ∧ off = q.1 ∧ lk none (T.fld.map fun p => (p.1, some p.2)) t = some l := by
  simp only [Tab.lang] at h
  split at h
  · rename_i l hl
    split at h
    · rename_i q hq
      simp only [Option.some.injEq, Prod.mk.injEq] at h
      obtain ⟨v, h1, h2⟩ := lk_inv (g := fun x : List (Nat × Nat) => x) hl
      subst h2
      exact ⟨l, q, h1, hq, h.1.symm, h.2.symm, hl⟩
    · cases h
  · cases h

theorem fld_struct (h : TabOK P T) {t : Nat} {l : List (Nat × Nat)} (hm : (t, l) ∈ T.fld) {f : Nat} {q : Nat × Nat} (hq : l[f]? = some q) :
    ∃ fs fld, P.underlying t = some (.struct fs) ∧ fs.size = l.length ∧ fs[f]? = some fld ∧ fld.offset = q.1 ∧ fld.type = q.2 ∧ ∃ i, P.info? fld.type = some i ∧ i.size ≠ 0 := by
  have h1 := map_eq_mem h.fldE _ hm
  simp only at h1
  split at h1
  · rename_i fs hu
    have hlen := congrArg List.length h1
    simp only [List.length_map, Array.length_toList] at hlen
    have h2 := congrArg (fun z => z[f]?) h1
    simp only [List.getElem?_map, hq, Option.map_some] at h2
    cases hf : fs.toList[f]? with
    | none => rw [hf] at h2; simp at h2
    | some fld =>
      rw [hf] at h2
      simp only [Option.map_some, Option.some.injEq, Prod.mk.injEq] at h2
      obtain ⟨e1, e2, e3⟩ := h2
      refine ⟨fs, fld, hu, hlen, by simpa using hf, e1, e2, ?_⟩
      simp only [Option.map_eq_some_iff] at e3
      obtain ⟨i, e4, e5⟩ := e3
      exact ⟨i, e4, by simpa using e5⟩
  · have : l = [] := by simpa using h1.symm
    subst this
    simp at hq

/-- **The table is worth what the laws want.** -/
theorem TabOK.lang (h : TabOK P T) : LangOK P T.lang := by
  refine ⟨fun t s ht => ?_, fun t s ht => ?_, fun t ht => ?_, fun t ht => ?_, fun t ht => ?_, fun t ht => ?_, fun t s ht => ?_, fun t ht => ?_, fun t f n off hf => ?_, fun t f n off s hf ht => ?_, fun t f n off s s' hf ht => ?_, h.pair, fun t n ht => ?_, fun t f n off hp hf => ?_, h.mixed, fun t ht => ?_⟩
  · have h1 := map_eq_mem h.info _ (sh_mem ht)
    simp only [Option.map_eq_some_iff, Prod.mk.injEq] at h1
    obtain ⟨i, e1, e2, e3, z, e4, e5⟩ := h1
    exact ⟨i, z, e1, e2, by simpa using e3, e4, e5⟩
  · have h1 := map_eq_mem h.under _ (sh_mem ht)
    simp only [Option.map_eq_some_iff, Prod.mk.injEq] at h1
    obtain ⟨d, e1, e2, _⟩ := h1
    exact ⟨d, e1, e2⟩
  all_goals try
    have h1 := map_eq_mem h.under _ (sh_mem ht)
    simp only [Option.map_eq_some_iff, Prod.mk.injEq] at h1
    obtain ⟨d, e1, _, e2⟩ := h1
    simp only [Sh.agg, descOf, Bool.false_eq_true, if_false, Option.some.injEq] at e2
    subst e2
  · exact e1
  · exact e1
  · exact e1
  · exact e1
  · have h2 := List.all_eq_true.1 h.slB _ (sh_mem ht)
    simp only [Bool.and_eq_true, decide_eq_true_eq] at h2
    exact ⟨e1, h2.1.1, h2.1.2, h2.2⟩
  · have hm : t ∈ T.plain := by simpa [Tab.lang] using ht
    have h1 := map_eq_mem h.plain t hm
    simp only [Prod.mk.injEq, Option.map_eq_some_iff] at h1
    obtain ⟨⟨d, e1, e2⟩, i, e3, e4⟩ := h1
    exact ⟨d, i, e1, e2, e3, e4⟩
  · obtain ⟨l, q, h1, h2, rfl, rfl, _⟩ := fld_mem hf
    obtain ⟨fs, fld, e1, e2, e3, e4, _, e5⟩ := fld_struct h h1 h2
    exact ⟨fs, fld, e1, e2, e3, e4, e5⟩
  · obtain ⟨l, q, h1, h2, rfl, rfl, _⟩ := fld_mem hf
    have h3 := List.all_eq_true.1 h.fldS _ h1
    simp only [ht, Bool.and_eq_true] at h3
    have h4 := List.all_eq_true.1 h3.2 f (List.mem_range.2 (List.getElem?_eq_some_iff.1 h2).1)
    simp only [Bool.and_eq_true, decide_eq_true_eq, h2, Option.map_some] at h4
    exact ⟨h4.1, h3.1⟩
  · intro x y hv
    obtain ⟨l, q, h1, h2, rfl, rfl, _⟩ := fld_mem hf
    obtain ⟨fs, fld, e1, e2, e3, e4, e4', e5⟩ := fld_struct h h1 h2
    have h3 := List.all_eq_true.1 h.fldS _ h1
    simp only [ht, Bool.and_eq_true] at h3
    have h4 := List.all_eq_true.1 h3.2 f (List.mem_range.2 (List.getElem?_eq_some_iff.1 h2).1)
    simp only [fieldV_S hv, Bool.and_eq_true, decide_eq_true_eq, h2, Option.bind_some] at h4
    exact ⟨fs, fld, e1, e3, by rw [e4']; exact h4.2⟩
  · obtain ⟨v, h1, rfl⟩ := lk_inv (g := fun x : Nat => x) (show lk none (T.ones.map fun p => (p.1, some p.2)) t = some n from ht)
    have h2 := map_eq_mem h.ones _ h1
    simp only at h2
    split at h2
    · rename_i fs i hu hi
      split at h2
      · rename_i z hz
        simp only [Option.some.injEq, Prod.mk.injEq] at h2
        exact ⟨fs, i, z, hu, hi, h2.1, hz, h2.2.1, h2.2.2⟩
      · cases h2
    · cases h2
  · obtain ⟨l, q, h1, h2, rfl, rfl, hl⟩ := fld_mem hf
    obtain ⟨fs, fld, e1, e2, e3, e4, e4', e5⟩ := fld_struct h h1 h2
    simp only [Tab.lang, hl, h2] at hp
    have hm : q.2 ∈ T.plain := by simpa using hp
    have h3 := map_eq_mem h.plain _ hm
    simp only [Prod.mk.injEq, Option.map_eq_some_iff] at h3
    obtain ⟨⟨d, k1, k2⟩, _⟩ := h3
    exact ⟨fs, fld, d, e1, e3, by rw [e4']; exact k1, k2⟩
  · have hm : t ∈ T.fns := by simpa [Tab.lang] using ht
    have h1 := map_eq_mem h.fns t hm
    simp only [Option.bind_eq_some_iff] at h1
    exact h1

/-- Two pairs of numbers are compared. -/
theorem pair_run {t ti : Nat} (h1 : P.underlying t = some (.struct (P.fieldsOf t))) (h2 : P.stoodInHeld t = false) (h3 : P.eqGuardType P.depth t = false)
    (h4 : (P.fieldsOf t).toList.map (fun f => (f.name == "_", f.offset, f.type)) = [(false, 0, ti), (false, 1, ti)]) (h5 : P.underlying ti = some (.int .i64)) (w : World) (a b c d : Int) (x y : Operand) :
    (do eqGuard .eql t x y (.agg #[.int .i64 a, .int .i64 b]) (.agg #[.int .i64 c, .int .i64 d]); binOp .eql t (.agg #[.int .i64 a, .int .i64 b]) (.agg #[.int .i64 c, .int .i64 d])).run P w = .ok (.bool (a == c && b == d)) w ∧
    (do eqGuard .neq t x y (.agg #[.int .i64 a, .int .i64 b]) (.agg #[.int .i64 c, .int .i64 d]); binOp .neq t (.agg #[.int .i64 a, .int .i64 b]) (.agg #[.int .i64 c, .int .i64 d])).run P w = .ok (.bool (!(a == c && b == d))) w := by
  have hpart : ∀ (xs : Array Value) (k : Nat) (v : Value), xs[k]? = some v → (part ti xs k).run P w = .ok v w := by
    intro xs k v hv
    have hagg : (isAgg ti).run P w = .ok false w := run_isAgg h5 w
    simp only [part, Sem.run_bind, hagg, Result.andThen_ok, Bool.false_eq_true, if_false, hv, Sem.run_pure]
  have key : (Op.eqFields 9999 #[.int .i64 a, .int .i64 b] #[.int .i64 c, .int .i64 d] (P.fieldsOf t).toList).run P w = .ok (a == c && b == d) w := by
    generalize (P.fieldsOf t).toList = fs at h4
    match fs, h4 with
    | [f, g], h4 =>
      simp only [List.map_cons, List.map_nil, List.cons.injEq, Prod.mk.injEq, and_true] at h4
      obtain ⟨⟨n1, o1, t1⟩, n2, o2, t2⟩ := h4
      have n1' : f.name ≠ "_" := by simpa using n1
      have n2' : g.name ≠ "_" := by simpa using n2
      have p1 := hpart _ _ _ (show (#[Value.int .i64 a, .int .i64 b])[0]? = some (.int .i64 a) from rfl)
      have p2 := hpart _ _ _ (show (#[Value.int .i64 c, .int .i64 d])[0]? = some (.int .i64 c) from rfl)
      have p3 := hpart _ _ _ (show (#[Value.int .i64 a, .int .i64 b])[1]? = some (.int .i64 b) from rfl)
      have p4 := hpart _ _ _ (show (#[Value.int .i64 c, .int .i64 d])[1]? = some (.int .i64 d) from rfl)
      have q1 := run_equalIn_int w 9998 ti .i64 .i64 a c h5
      have q2 := run_equalIn_int w 9998 ti .i64 .i64 b d h5
      simp only [Op.eqFields, n1', n2', o1, o2, t1, t2, ne_eq, not_false_eq_true, if_true, Sem.run_bind, p1, p2, Result.andThen_ok, q1]
      cases (a == c)
      · simp
      · simp only [Bool.not_true, Bool.false_eq_true, if_false, Sem.run_bind, p3, p4, Result.andThen_ok, q2]
        cases (b == d) <;> simp
    | [], h4 => simp at h4
    | [_], h4 => simp at h4
    | _ :: _ :: _ :: _, h4 => simp at h4
  constructor
  · simp only [Sem.run_bind, run_eqGuard_agg w .eql t x y _ _ h3, Result.andThen_ok, run_eql_struct, run_equalIn_agg w 9999 t _ _ h1 h2, key]
  · simp only [Sem.run_bind, run_eqGuard_agg w .neq t x y _ _ h3, Result.andThen_ok, run_neq_struct, run_equalIn_agg w 9999 t _ _ h1 h2, key]

end
/-! ### Reckoning -/
section
variable {s : AS} {K : BV → BV}
theorem ev_tmp (t : Nat) : ev s (.tmp t) = s.env t := rfl
theorem ev_const (v : Value) : ev s (.const v) = constSV v := rfl
theorem ev_func (f : FuncId) : ev s (.func f) = .one (.fn f []) := rfl
theorem put_env_same (d : Nat) (v : SV) : (s.put (some d) v).env d = v := upd_same _ _ _
theorem put_env_ne {d t : Nat} (v : SV) (h : t ≠ d) : (s.put (some d) v).env t = s.env t := upd_ne _ _ h
theorem put_none (v : SV) : s.put none v = s := rfl
theorem of_env (e : List (Nat × SV)) (r : List (Nat × RC)) (b : List (Nat × SV)) (i : Nat) : (AS.of e r b).env i = lk (.one .any) e i := rfl
theorem of_roots (e : List (Nat × SV)) (r : List (Nat × RC)) (b : List (Nat × SV)) (i : Nat) : (AS.of e r b).roots i = lk none (r.map fun p => (p.1, some p.2)) i := rfl
theorem of_boxes (e : List (Nat × SV)) (r : List (Nat × RC)) (b : List (Nat × SV)) (i : Nat) : (AS.of e r b).boxes i = lk none (b.map fun p => (p.1, some p.2)) i := rfl
theorem map_env (i : Nat) : (s.map K).env i = mapSV K (s.env i) := rfl
theorem map_roots : (s.map K).roots = s.roots := rfl
theorem map_boxes (i : Nat) : (s.map K).boxes i = (s.boxes i).map (mapSV K) := rfl
theorem setRoot_env (r : Nat) (rc : Option RC) : (s.setRoot r rc).env = s.env := rfl
theorem setRoot_boxes (r : Nat) (rc : Option RC) : (s.setRoot r rc).boxes = s.boxes := rfl
theorem setRoot_same (r : Nat) (rc : Option RC) : (s.setRoot r rc).roots r = rc := upd_same _ _ _
theorem setRoot_ne {r q : Nat} (rc : Option RC) (h : q ≠ r) : (s.setRoot r rc).roots q = s.roots q := upd_ne _ _ h
theorem setBox_env (b : Nat) (sv : SV) : (s.setBox b sv).env = s.env := rfl
theorem setBox_roots (b : Nat) (sv : SV) : (s.setBox b sv).roots = s.roots := rfl
theorem setBox_same (b : Nat) (sv : SV) : (s.setBox b sv).boxes b = some sv := upd_same _ _ _
theorem setBox_ne {b q : Nat} (sv : SV) (h : q ≠ b) : (s.setBox b sv).boxes q = s.boxes q := upd_ne _ _ h
theorem setRoots_env (l : List (Nat × RC)) : (s.setRoots l).env = s.env := rfl
theorem setRoots_boxes (l : List (Nat × RC)) : (s.setRoots l).boxes = s.boxes := rfl
theorem setRoots_roots (l : List (Nat × RC)) (r : Nat) : (s.setRoots l).roots r = (match lk none (l.map fun p => (p.1, some p.2)) r with
  | some rc => some rc
  | none => s.roots r) := rfl
theorem lk_same {α : Type} (d : α) (i : Nat) (v : α) (l : List (Nat × α)) : lk d ((i, v) :: l) i = v := if_pos rfl
theorem lk_ne {α : Type} (d : α) {i j : Nat} (v : α) (l : List (Nat × α)) (h : j ≠ i) : lk d ((i, v) :: l) j = lk d l j := if_neg h
theorem lk_nil {α : Type} (d : α) (j : Nat) : lk d ([] : List (Nat × α)) j = d := rfl
end

theorem tri_seqk {C : Ctx} {N : Nat} {Q : Exit → AS → Prop} {s : AS} {x y : Code} (h : ∀ K : AS → Prop, (∀ s, tri C N y Q s → K s) → tri C N x (thenQ K Q) s) : tri C N (.seq x y) Q s := tri_seq (h _ fun _ h => h)

theorem tri_loopI {C : Ctx} {N : Nat} {Q : Exit → AS → Prop} {s : AS} {c : Code} {α : Type} (F : α → AS) (I : α → Prop) (m : α → Nat) (x0 : α) (hI : I x0) (h0 : Weak C.nl s (F x0))
    (round : ∀ x, I x → ∀ K : AS → Prop, (∀ s' y, I y → m y < m x → Weak C.nl s' (F y) → K s') → tri C N c (thenQ K Q) (F x)) : tri C N (.loop c) Q s :=
  tri_loop (α := { x // I x }) (fun x => F x.1) (fun x => m x.1) ⟨x0, hI⟩ h0 fun x => round x.1 x.2 _ fun _ y hy hlt hw => ⟨⟨y, hy⟩, hw, hlt⟩

theorem bv_val {s : Sh} {x y : s.T} : (BV.val s x = BV.val s y) = (x = y) := by simp
theorem rv_val {s : Sh} {x y : s.T} : (RV.val s x = RV.val s y) = (x = y) := by simp

theorem tri_if {C : Ctx} {N : Nat} {Q : Exit → AS → Prop} {s : AS} {c : Operand} {x y : Code} {p : Prop} [Decidable p] (hc : ev s c = .one (.val .bool (decide p))) (h1 : p → tri C N x Q s) (h2 : ¬ p → tri C N y Q s) : tri C N (.cond c x y) Q s :=
  tri_cond hc (fun h => h1 (of_decide_eq_true h)) (fun h => h2 (of_decide_eq_false h))
theorem tri_ifn {C : Ctx} {N : Nat} {Q : Exit → AS → Prop} {s : AS} {c : Operand} {x y : Code} {p : Prop} [Decidable p] (hc : ev s c = .one (.val .bool (!decide p))) (h1 : ¬ p → tri C N x Q s) (h2 : p → tri C N y Q s) : tri C N (.cond c x y) Q s :=
  tri_cond hc (fun h => h1 (by simpa using h)) (fun h => h2 (by simpa using h))

theorem goK {C : Ctx} {N : Nat} {c : Code} {Q : Exit → AS → Prop} {K : AS → Prop} {s : AS} (h : ∀ s, tri C N c Q s → K s) (h2 : tri C N c Q s) : K s := h s h2

theorem tri_unk {C : Ctx} {N : Nat} {Q : Exit → AS → Prop} {s : AS} {c : Operand} {x y : Code} (hc : ev s c = .one .unk) (h1 : tri C N x Q s) (h2 : tri C N y Q s) : tri C N (.cond c x y) Q s := by
  refine ⟨fun γ a w hr hN => ?_⟩
  have hv := ev_rep hr c
  rw [hc] at hv
  obtain ⟨b, hv⟩ := hv
  exact wp_cond_split hv (fun _ => h1.run γ a w hr hN) (fun _ => h2.run γ a w hr hN)
theorem tri_true {C : Ctx} {N : Nat} {Q : Exit → AS → Prop} {s : AS} {c : Operand} {x y : Code} (hc : ev s c = .one (.val .bool true)) (h1 : tri C N x Q s) : tri C N (.cond c x y) Q s :=
  tri_cond hc (fun _ => h1) (fun h => by cases h)
theorem tri_false {C : Ctx} {N : Nat} {Q : Exit → AS → Prop} {s : AS} {c : Operand} {x y : Code} (hc : ev s c = .one (.val .bool false)) (h2 : tri C N y Q s) : tri C N (.cond c x y) Q s :=
  tri_cond hc (fun h => by cases h) (fun _ => h2)

theorem bq_t (b : Bool) : (b == true) = b := by cases b <;> rfl
theorem bq_f (b : Bool) : (b == false) = !b := by cases b <;> rfl

end Go.VS
