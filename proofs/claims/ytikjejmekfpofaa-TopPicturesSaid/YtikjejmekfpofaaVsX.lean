/- Value semantics, part X: whatever a statement is handed stands for data of its type's shape. Over any program; no condition. -/
import Derived.Test.YtikjejmekfpofaaV3
import Derived.Deep.Slices
import Derived.ChangeArms
import Derived.OpenShut
import Derived.ChangeMaps5
namespace Go.VS
open Go.RowKit Go.Deep Go.ChangeShapes Go.WideShapes
set_option linter.unusedSimpArgs false
set_option linter.unusedVariables false

/-- The fields of a structure, from an offset on, have the shapes of the parts. -/
def partsB (T : Tab) : Nat → List (Nat × Nat) → Sh → Bool
  | o, [q], s => q.1 == o && decide (T.lang.sh q.2 = some s)
  | o, q :: l, .prod a b => q.1 == o && decide (T.lang.sh q.2 = some a) && partsB T (o + a.size) l b
  | _, _, _ => false

def structB (T : Tab) : List (Nat × Nat) → Sh → Bool
  | [q], .prod a .unit => q.1 == 0 && decide (T.lang.sh q.2 = some a)
  | [_], _ => false
  | [], _ => false
  | l, s => partsB T 0 l s

def Tab.partsOK (T : Tab) : Bool := T.sh.all fun p => match p.2 with
  | .prod _ _ => match lk none (T.fld.map fun q => (q.1, some q.2)) p.1 with
    | some l => structB T l p.2
    | none => false
  | .unit => false
  | _ => true

section
variable {H : Type} {enc : TypeId × Value → H} {P : Program} {w : World} {base : Nat} {spare : Nat → Bool} {held : Bool} {T : Tab}

theorem cells_of (h : TabOK P T) {t : Nat} {s : Sh} (ht : T.lang.sh t = some s) : P.cellsOf t = s.size := by
  obtain ⟨i, z, h1, h2, _⟩ := h.lang.info t s ht
  unfold Program.cellsOf
  rw [h1]
  exact h2

def Opens (enc : TypeId × Value → H) (P : Program) (w : World) (base : Nat) (spare : Nat → Bool) (held : Bool) (T : Tab) (s : Sh) : Prop :=
  ∀ (fuel t : Nat) (cs : List Value) (x : DataW H × List MemPlace), T.lang.sh t = some s → DataW.trod enc P w base spare held fuel t cs = some x → ∃ y : s.T, pers w (fun _ => True) s y cs

def OpensParts (enc : TypeId × Value → H) (P : Program) (w : World) (base : Nat) (spare : Nat → Bool) (held : Bool) (T : Tab) (s : Sh) : Prop :=
  ∀ (fuel o : Nat) (l : List (Nat × Nat)) (cs : List Value), partsB T o l s = true → 2 ≤ l.length → (∀ q ∈ l, ∃ x, DataW.trod enc P w base spare held fuel q.2 ((cs.drop q.1).take (P.cellsOf q.2)) = some x) →
    ∃ y : s.T, pers w (fun _ => True) s y ((cs.drop o).take s.size)

theorem opens_struct (h : TabOK P T) (hp : T.partsOK = true) {a b : Sh} (ha : Opens enc P w base spare held T a) (hb : Opens enc P w base spare held T b) (hb2 : OpensParts enc P w base spare held T b) :
    Opens enc P w base spare held T (.prod a b) ∧ OpensParts enc P w base spare held T (.prod a b) := by
  have parts : OpensParts enc P w base spare held T (.prod a b) := by
    intro fuel o l cs hB hl hx
    have step : ∀ (q : Nat × Nat), q.1 = o → T.lang.sh q.2 = some a → (∃ x, DataW.trod enc P w base spare held fuel q.2 ((cs.drop q.1).take (P.cellsOf q.2)) = some x) → ∃ y : a.T, pers w (fun _ => True) a y ((cs.drop o).take a.size) := by
      rintro q rfl hq ⟨x, hx⟩
      rw [cells_of h hq] at hx
      exact ha fuel q.2 _ x hq hx
    match l, hl, hB, hx with
    | [q, q'], _, hB, hx =>
      simp only [partsB, Bool.and_eq_true, beq_iff_eq, decide_eq_true_eq] at hB
      obtain ⟨⟨h1, h2⟩, h3, h4⟩ := hB
      obtain ⟨y1, k1⟩ := step q h1 h2 (hx q (by simp))
      obtain ⟨x, hx'⟩ := hx q' (by simp)
      rw [cells_of h h4] at hx'
      obtain ⟨y2, k2⟩ := hb fuel q'.2 _ x h4 hx'
      refine ⟨(y1, y2), _, _, ?_, k1, k2⟩
      rw [h3, Sh.size, List.take_add, List.drop_drop]
    | q :: q' :: q'' :: l, _, hB, hx =>
      simp only [partsB, Bool.and_eq_true, beq_iff_eq, decide_eq_true_eq] at hB
      obtain ⟨⟨h1, h2⟩, h3⟩ := hB
      obtain ⟨y1, k1⟩ := step q h1 h2 (hx q (by simp))
      obtain ⟨y2, k2⟩ := hb2 fuel (o + a.size) (q' :: q'' :: l) cs h3 (by simp) (fun p hp => hx p (List.mem_cons_of_mem _ hp))
      refine ⟨(y1, y2), _, _, ?_, k1, k2⟩
      rw [Sh.size, List.take_add, List.drop_drop]
  refine ⟨?_, parts⟩
  intro fuel t cs x ht hx
  have h1 := List.all_eq_true.1 hp _ (sh_mem ht)
  simp only at h1
  cases hl : lk none (T.fld.map fun q => (q.1, some q.2)) t with
  | none => rw [hl] at h1; cases h1
  | some l =>
    rw [hl] at h1
    simp only at h1
    obtain ⟨l', hm, rfl⟩ := lk_inv (g := fun x : List (Nat × Nat) => x) hl
    have hE := map_eq_mem h.fldE _ hm
    simp only at hE
    split at hE
    · rename_i fs hu
      obtain ⟨xs, n, rfl, _, hlen, hxl, hall⟩ := DataW.trod_struct hu hx
      have hmem : ∀ q ∈ l, ∃ x, DataW.trod enc P w base spare held n q.2 ((cs.drop q.1).take (P.cellsOf q.2)) = some x := by
        intro q hq
        obtain ⟨j, hj⟩ := List.mem_iff_getElem?.1 hq
        have h2 := congrArg (fun z => z[j]?) hE
        simp only [List.getElem?_map, hj, Option.map_some] at h2
        cases hf : fs.toList[j]? with
        | none => rw [hf] at h2; simp at h2
        | some fld =>
          rw [hf] at h2
          simp only [Option.map_some, Option.some.injEq, Prod.mk.injEq] at h2
          obtain ⟨e1, e2, _⟩ := h2
          have hf' : fs[j]? = some fld := by simpa using hf
          have h3 := hall j fld hf'
          have hjl : j < xs.length := by rw [hxl]; exact (Array.getElem?_eq_some_iff.1 hf').1
          rw [List.getElem?_eq_getElem hjl, e1, e2] at h3
          exact ⟨_, h3⟩
      rw [cells_of h ht] at hlen
      match l, h1, hmem with
      | [], h1, _ => simp [structB] at h1
      | [q], h1, hmem =>
        cases b with
        | unit =>
          simp only [structB, Bool.and_eq_true, beq_iff_eq, decide_eq_true_eq] at h1
          obtain ⟨x', hx'⟩ := hmem q (by simp)
          rw [cells_of h h1.2, h1.1] at hx'
          obtain ⟨y, k⟩ := ha n q.2 _ x' h1.2 hx'
          refine ⟨(y, ()), _, [], ?_, k, rfl⟩
          have : cs.length = a.size := by rw [hlen]; simp [Sh.size]
          rw [List.append_nil, List.drop_zero, List.take_of_length_le (by omega)]
        | _ => simp [structB] at h1
      | q :: q' :: l, h1, hmem =>
        obtain ⟨y, k⟩ := parts n 0 (q :: q' :: l) cs (by simpa [structB] using h1) (by simp) hmem
        rw [List.drop_zero, List.take_of_length_le (by omega)] at k
        exact ⟨y, k⟩
    · have : l = [] := by simpa using hE.symm
      subst this
      simp [structB] at h1

/-- No error stands in it. -/
def _root_.Go.VS.Sh.opn : Sh → Bool
  | .err _ => false
  | .prod a b => a.opn && b.opn
  | .sl a => a.opn
  | _ => true

theorem opens (h : TabOK P T) (hp : T.partsOK = true) : ∀ s : Sh, s.opn = true → Opens enc P w base spare held T s ∧ OpensParts enc P w base spare held T s
  | .err _, ho => by simp [Sh.opn] at ho
  | .uint, _ => by
    refine ⟨fun fuel t cs x ht hx => ?_, fun fuel o l cs hB hl _ => ?_⟩
    · obtain ⟨n, rfl, _, hw⟩ := DataW.trod_int (h.lang.uint t ht) hx
      simp only [Lit.wf, Bool.and_eq_true, decide_eq_true_eq, IntKind.min, IntKind.signed] at hw
      refine ⟨n.toNat, ?_⟩
      have h0 : 0 ≤ n := by simpa using hw.1
      simp only [pers]
      rw [Int.toNat_of_nonneg h0]
    · match l, hl with
      | _ :: _ :: _, _ => simp [partsB] at hB
  | .int, _ => by
    refine ⟨fun fuel t cs x ht hx => ?_, fun fuel o l cs hB hl _ => ?_⟩
    · obtain ⟨n, rfl, _⟩ := DataW.trod_int (h.lang.int t ht) hx
      exact ⟨n, rfl⟩
    · match l, hl with
      | _ :: _ :: _, _ => simp [partsB] at hB
  | .byte, _ => by
    refine ⟨fun fuel t cs x ht hx => ?_, fun fuel o l cs hB hl _ => ?_⟩
    · obtain ⟨n, rfl, _, hw⟩ := DataW.trod_int (h.lang.byte t ht) hx
      simp only [Lit.wf, Bool.and_eq_true, decide_eq_true_eq, IntKind.min, IntKind.signed] at hw
      refine ⟨n.toNat, ?_⟩
      have h0 : 0 ≤ n := by simpa using hw.1
      simp only [pers]
      rw [Int.toNat_of_nonneg h0]
    · match l, hl with
      | _ :: _ :: _, _ => simp [partsB] at hB
  | .bool, _ => by
    refine ⟨fun fuel t cs x ht hx => ?_, fun fuel o l cs hB hl _ => ?_⟩
    · obtain ⟨n, rfl, _⟩ := DataW.trod_bool (h.lang.bool t ht) hx
      exact ⟨n, rfl⟩
    · match l, hl with
      | _ :: _ :: _, _ => simp [partsB] at hB
  | .str, _ => by
    refine ⟨fun fuel t cs x ht hx => ?_, fun fuel o l cs hB hl _ => ?_⟩
    · obtain ⟨n, rfl, _⟩ := DataW.trod_string (h.lang.str t ht) hx
      exact ⟨n, rfl⟩
    · match l, hl with
      | _ :: _ :: _, _ => simp [partsB] at hB
  | .unit, _ => by
    refine ⟨fun fuel t cs x ht hx => ?_, fun fuel o l cs hB hl _ => ?_⟩
    · have h1 := List.all_eq_true.1 hp _ (sh_mem ht)
      simp at h1
    · match l, hl with
      | _ :: _ :: _, _ => simp [partsB] at hB
  | .prod a b, ho => by
    simp only [Sh.opn, Bool.and_eq_true] at ho
    exact opens_struct h hp (opens h hp a ho.1).1 (opens h hp b ho.2).1 (opens h hp b ho.2).2
  | .sl a, ho => by
    replace ho : a.opn = true := ho
    refine ⟨fun fuel t cs x ht hx => ?_, fun fuel o l cs hB hl _ => ?_⟩
    · obtain ⟨hu, he, hpos, _⟩ := h.lang.sl t a ht
      rcases open_slice hu hx with ⟨rfl, _⟩ | ⟨ad, len, cap, m, n, D, Pl, rfl, hb, hl, hm, hmm, rfl, hel⟩
      · exact ⟨[], none, 0, rfl, Nat.le_refl _, Nat.zero_le _, fun i hi => by simp at hi⟩
      · have hlm : len ≤ m := by rw [hmm]; split <;> omega
        have each : ∀ i, i < len → ∃ z : a.T × List Value, pers w (fun _ => True) a z.1 z.2 ∧ ∀ j, j < a.size → w.cell? ((ad.add (i * a.size)).add j) = z.2[j]? := by
          intro i hi
          obtain ⟨cs', h1, h2⟩ := hel i (by omega)
          rw [cells_of h he] at h1
          obtain ⟨_, hlen, hcell⟩ := World.cells?_some h1
          obtain ⟨y, hy⟩ := (opens h hp a ho).1 n _ cs' _ he h2
          exact ⟨(y, cs'), hy, hcell⟩
        have inh : Inhabited (a.T × List Value) := ⟨(a.zero, [])⟩
        obtain ⟨z, hz⟩ := choose_lt each
        refine ⟨(List.range len).map fun i => (z i).1, some ad, cap, by simp, by simpa using hl, hm, fun i hi => ?_⟩
        have hi' : i < len := by simpa using hi
        obtain ⟨k1, k2⟩ := hz i hi'
        have hzl := pers_len a _ _ k1
        have hc0 := k2 0 hpos
        rw [add_add, List.getElem?_eq_getElem (by omega)] at hc0
        obtain ⟨b, off, spot⟩ := ad
        have hspot : spot = none := by
          obtain ⟨m1, m2⟩ := hz 0 (by omega)
          have hz0 := pers_len a _ _ m1
          have m3 := m2 0 hpos
          rw [add_add, List.getElem?_eq_getElem (by omega)] at m3
          simpa [Addr.add] using World.cell?_spot m3
        subst hspot
        rw [Addr.add_lit] at hc0
        have hblt : b < w.heap.size := by
          rcases Nat.lt_or_ge b w.heap.size with h1 | h1
          · exact h1
          · have : w.heap[b]? = none := Array.getElem?_eq_none h1
            simp [World.cell?, this] at hc0
        refine ⟨b, off, (z i).2, rfl, trivial, hblt, by simpa using k1, fun j v hj => ?_⟩
        have hjl : j < a.size := by
          have := (List.getElem?_eq_some_iff.1 hj).1
          omega
        have := k2 j hjl
        rw [add_add, Addr.add_lit, hj] at this
        exact this
    · match l, hl with
      | _ :: _ :: _, _ => simp [partsB] at hB

/-- An argument. -/
theorem open_arg (h : TabOK P T) (hp : T.partsOK = true) {r : Reach} {b0 : Nat} {t : Nat} {s : Sh} {v : Value} {d : DataW H} {ps : List MemPlace} (ht : T.lang.sh t = some s) (hval : Value.okWide P w r b0 t v) (hx : DataW.Trod enc P w base spare held t v d ps) (ho : s.opn = true := by rfl) :
    ∃ y : s.T, vrep w (fun _ => True) s y v := by
  obtain ⟨fuel, hf⟩ := hx
  obtain ⟨y, k⟩ := (opens h hp s ho).1 fuel t _ _ ht hf
  refine ⟨y, _, k, ?_⟩
  cases s with
  | unit =>
    have h1 := List.all_eq_true.1 hp _ (sh_mem ht)
    simp at h1
  | prod a b =>
    obtain ⟨d', h1, h2⟩ := h.lang.agg t _ ht
    unfold Value.okWide at hval
    rw [h1] at hval
    cases d' <;> simp [aggB, Sh.agg] at h2
    all_goals
      obtain ⟨cs, rfl, _⟩ := hval
      simp [pack, Sh.agg, Value.cells]
  | int =>
    obtain ⟨n, rfl, _⟩ := open_int (h.lang.int t ht) hval ⟨fuel, hf⟩
    rfl
  | byte =>
    obtain ⟨n, rfl, _⟩ := open_int (h.lang.byte t ht) hval ⟨fuel, hf⟩
    rfl
  | uint =>
    obtain ⟨n, rfl, _⟩ := open_int (h.lang.uint t ht) hval ⟨fuel, hf⟩
    rfl
  | err u => simp [Sh.opn] at ho
  | bool =>
    obtain ⟨n, rfl, _⟩ := open_bool (h.lang.bool t ht) hval ⟨fuel, hf⟩
    rfl
  | str =>
    obtain ⟨n, rfl, _⟩ := Go.ChangeMaps.open_string (h.lang.str t ht) hval ⟨fuel, hf⟩
    rfl
  | sl a =>
    obtain ⟨a0, len, cap, rfl⟩ := okWide_slice (h.lang.sl t a ht).1 hval
    rfl
end
end Go.VS
