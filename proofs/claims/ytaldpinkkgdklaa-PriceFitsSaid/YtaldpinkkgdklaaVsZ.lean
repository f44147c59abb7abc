/- Value semantics, part Z: a region in any order, by what holds when some of its operations are done. Over any program; no condition. -/
import Derived.Test.YtaldpinkkgdklaaVsW
namespace Go.VS
open Go.RowKit
set_option linter.unusedSimpArgs false
set_option linter.unusedVariables false

def setD (D : Nat → Bool) (i : Nat) : Nat → Bool := fun k => D k || k == i
/-- The operations that come ahead of this one, whatever the order is. -/
def preds (o : Oper) : List Nat := (o.after.toList.filter (Region.binds .any)).map (·.on)
def ordB (l : List Oper) : Bool := (List.range l.length).all fun i => match l[i]? with
  | some o => (preds o).all fun k => decide (k < i)
  | none => true

/-- Each operation, once all is done that comes ahead of it, makes Inv of Inv. -/
def eachOp (E : Know) (nl : Nat) (ops : Array Oper) (Inv : (Nat → Bool) → AS → Prop) : Nat → List Oper → Prop
  | _, [] => True
  | i, o :: l => (∀ D s, D i = false → (preds o).all D = true → Inv D s → runK E nl ops [o] s (Inv (setD D i))) ∧ eachOp E nl ops Inv (i + 1) l

theorem eachOp_at {E : Know} {nl : Nat} {ops : Array Oper} {Inv : (Nat → Bool) → AS → Prop} : ∀ (l : List Oper) (k i : Nat) (o : Oper), eachOp E nl ops Inv k l → l[i]? = some o →
    ∀ D s, D (k + i) = false → (preds o).all D = true → Inv D s → stepK E nl ops s o (Inv (setD D (k + i)))
  | [], _, _, _, _, h => by simp at h
  | o' :: l, k, 0, o, h, hi => by
    simp only [List.getElem?_cons_zero, Option.some.injEq] at hi
    subst hi
    exact h.1
  | o' :: l, k, i + 1, o, h, hi => by
    rw [List.getElem?_cons_succ] at hi
    have := eachOp_at l (k + 1) i o h.2 hi
    rwa [show k + 1 + i = k + (i + 1) by omega] at this

section
variable {C : Ctx} {E : Know} {γ : Gam} {s : AS} {a : Act} {w : World} {ops : Array Oper}

theorem countP_lt {q q' : Nat → Bool} {t : Nat} (hi : ∀ x, q' x = true → q x = true) (h1 : q t = true) (h2 : q' t = false) : ∀ n : Nat, ((List.range n).countP q' ≤ (List.range n).countP q) ∧ (t < n → (List.range n).countP q' + 1 ≤ (List.range n).countP q)
  | 0 => ⟨by simp, fun h => by omega⟩
  | n + 1 => by
    obtain ⟨k1, k2⟩ := countP_lt hi h1 h2 n
    rw [List.range_succ, List.countP_append, List.countP_append, List.countP_singleton, List.countP_singleton]
    have h3 : (if q' n = true then 1 else 0) ≤ (if q n = true then 1 else 0) := by
      cases hq : q' n with
      | false => simp
      | true => simp [hi n hq]
    refine ⟨by omega, fun ht => ?_⟩
    rcases Nat.lt_or_ge t n with hlt | hge
    · have := k2 hlt; omega
    · have : t = n := by omega
      subst this
      simp only [h1, h2, if_true]
      simp
      omega

theorem least_of {p : Nat → Prop} : ∀ (n : Nat), (∃ k, k < n ∧ p k) → ∃ k, k < n ∧ p k ∧ ∀ j, j < k → ¬ p j
  | 0, ⟨k, hk, _⟩ => by omega
  | n + 1, ⟨k, hk, hp⟩ => by
    by_cases h : ∃ k, k < n ∧ p k
    · obtain ⟨k', h1, h2, h3⟩ := least_of n h
      exact ⟨k', by omega, h2, h3⟩
    · have hkn : k = n := by
        rcases Nat.lt_or_ge k n with h1 | h1
        · exact absurd ⟨k, h1, hp⟩ h
        · omega
      subst hkn
      exact ⟨k, hk, hp, fun j hj hpj => h ⟨j, hj, hpj⟩⟩

theorem wpAny_of_inv (hE : KnowOK C.P E) {N : Nat} {Inv : (Nat → Bool) → AS → Prop} {Q' : Exit → Act → World → Prop} (hd : ∀ (j : Nat) (o : Oper), ops[j]? = some o → dstOK N o.dst = true)
    (hord : ∀ (i : Nat) (o : Oper), ops[i]? = some o → ∀ k ∈ preds o, k < i)
    (hstep : ∀ (i : Nat) (o : Oper), ops[i]? = some o → ∀ D s, D i = false → (preds o).all D = true → Inv D s → stepK E C.nl ops s o (Inv (setD D i)))
    (hQ : ∀ D s γ a w, (∀ k, k < ops.size → D k = true) → Inv D s → Rel C γ s a w → a.tmps.size = N → Q' .normal a w) :
    ∀ (f : Nat) (listed : Array Bool) (s : AS) (γ : Gam) (a : Act) (w : World), listed.size = ops.size → (List.range ops.size).countP (fun k => !listed.getD k false) ≤ f →
      Rel C γ s a w → a.tmps.size = N → Inv (fun k => listed.getD k false) s → wpAny C.P .any ops Q' f listed a w := by
  have done : ∀ (listed : Array Bool), listed.size = ops.size → Region.ready .any ops listed = [] → ∀ k, k < ops.size → listed.getD k false = true := by
    intro listed hsz hr k hk
    apply Classical.byContradiction
    intro hn
    obtain ⟨m, hm, hm1, hm2⟩ := least_of (p := fun k => ¬ listed.getD k false = true) ops.size ⟨k, hk, hn⟩
    have : m ∈ Region.ready .any ops listed := by
      refine mem_ready.2 ⟨?_, ops[m], by simp [hm], fun e he hb => ?_⟩
      · rw [Bool.not_eq_true] at hm1
        simp [hsz, hm] at hm1 ⊢
        exact hm1
      · have h1 := hord m ops[m] (by simp [hm]) e.on (List.mem_map.2 ⟨e, List.mem_filter.2 ⟨by simpa using he, hb⟩, rfl⟩)
        have h2 := hm2 e.on h1
        exact Classical.byContradiction h2
    rw [hr] at this
    cases this
  intro f
  induction f with
  | zero =>
    intro listed s γ a w hsz hc h hN hI
    have hall : ∀ k, k < ops.size → listed.getD k false = true := fun k hk => by
      have h0 : (List.range ops.size).countP (fun k => !listed.getD k false) = 0 := by omega
      rw [List.countP_eq_zero] at h0
      have := h0 k (List.mem_range.2 hk)
      simpa using this
    refine ⟨?_, hQ _ _ _ _ _ hall hI h hN⟩
    cases hr : Region.ready .any ops listed with
    | nil => rfl
    | cons m rs =>
      have hm : m ∈ Region.ready .any ops listed := by rw [hr]; exact List.mem_cons_self ..
      obtain ⟨h1, o, ho, _⟩ := mem_ready.1 hm
      have hmlt : m < ops.size := by
        rcases Nat.lt_or_ge m ops.size with h | h
        · exact h
        · rw [Array.getElem?_eq_none h] at ho; cases ho
      have h2 := hall m hmlt
      simp [hsz, hmlt] at h1 h2
      rw [h1] at h2
      cases h2
  | succ f ih =>
    intro listed s γ a w hsz hc h hN hI
    refine ⟨fun hr => hQ _ _ _ _ _ (done listed hsz hr) hI h hN, fun i hi => ?_⟩
    obtain ⟨h1, o, ho, hall⟩ := mem_ready.1 hi
    have hilt : i < ops.size := by
      rcases Nat.lt_or_ge i ops.size with h | h
      · exact h
      · rw [Array.getElem?_eq_none h] at ho; cases ho
    have hDi : listed.getD i false = false := by
      simp [hsz, hilt] at h1 ⊢
      exact h1
    have hset : ∀ k, (listed.setIfInBounds i true).getD k false = setD (fun k => listed.getD k false) i k := fun k => by
      unfold setD
      by_cases hk : k = i
      · subst hk
        simp [hsz, hilt]
      · have : (k == i) = false := by simpa using hk
        rw [this, Bool.or_false]
        simp only [Array.getD_eq_getD_getElem?, Array.getElem?_setIfInBounds]
        rw [if_neg (fun h => hk h.symm)]
    have hk := hstep i o ho (fun k => listed.getD k false) s hDi (by
      rw [List.all_eq_true]
      intro k hk
      obtain ⟨e, he, rfl⟩ := List.mem_map.1 hk
      obtain ⟨he1, he2⟩ := List.mem_filter.1 he
      exact hall e (by simpa using he1) he2) hI
    have h2 := stepK_sound (ops := ops) (Q := Q') hE h (by rw [hN]; exact hd) (o := o) (by rw [hN]; exact hd i o ho) hk
      (next := wpAny C.P .any ops Q' f (listed.setIfInBounds i true)) (fun s' γ' a' w' k1 k2 k3 => ih _ s' γ' a' w' (by simp [hsz]) (by
        have h5 := (countP_lt (q := fun k => !listed.getD k false) (q' := fun k => !(listed.setIfInBounds i true).getD k false) (t := i) (fun x hx => by
          rw [hset] at hx
          simp only [setD, Bool.not_eq_true', Bool.or_eq_false_iff] at hx
          simp only [Bool.not_eq_true']
          exact hx.1) (by simp only [hDi]; rfl) (by rw [hset]; simp [setD]) ops.size).2 hilt
        omega) k1 (k2.trans hN) (by
        have e : (fun k => (listed.setIfInBounds i true).getD k false) = setD (fun k => listed.getD k false) i := funext hset
        rw [e]; exact k3))
    unfold wpOp
    simp only [ho]
    split
    · rename_i hw
      rw [if_pos hw] at h2
      exact .inl h2
    · rename_i hw
      rw [if_neg hw] at h2
      exact h2
end

/-- **A region in any order**, by an invariant of what is done. -/
theorem tri_inv {C : Ctx} {N : Nat} {Q : Exit → AS → Prop} {s : AS} {E : Know} (hE : KnowOK C.P E) {id : Nat} {l : List Oper} (Inv : (Nat → Bool) → AS → Prop) (hd : allDst N l = true) (ho : ordB l = true)
    (h0 : Inv (fun _ => false) s) (hs : eachOp E C.nl l.toArray Inv 0 l) (hQ : ∀ D s', (∀ k, k < l.length → D k = true) → Inv D s' → Q .normal s') : tri C N (.region id l.toArray true) Q s := by
  refine ⟨fun γ a w hr hN => ?_⟩
  have hd' : ∀ (j : Nat) (o : Oper), l.toArray[j]? = some o → dstOK N o.dst = true := fun j o ho => allDst_spec (ops := l.toArray) (by simpa using hd) j o ho
  refine wp_region_any hE.lang.mixed ?_
  have hr' : Rel C γ s a { w with drawn := w.drawn + 1 } := hr.world ⟨rfl, rfl, rfl, Nat.le_refl _, fun _ _ _ => rfl⟩
  refine wpAny_of_inv (ops := l.toArray) (Inv := Inv) hE hd' (fun i o hi k hk => ?_) (fun i o hi D s => ?_) (fun D s' γ' a' w' hD hI h1 h2 => ⟨s', γ', h1, h2, hQ D s' (by simpa using hD) hI⟩) l.toArray.size _ s γ a _ (by simp) (Nat.le_trans List.countP_le_length (by simp)) hr' hN ?_
  · have hi' : l[i]? = some o := by simpa using hi
    have hil : i < l.length := by
      rcases Nat.lt_or_ge i l.length with h | h
      · exact h
      · rw [List.getElem?_eq_none h] at hi'; cases hi'
    unfold ordB at ho
    rw [List.all_eq_true] at ho
    have := ho i (List.mem_range.2 hil)
    rw [hi'] at this
    simp only [List.all_eq_true, decide_eq_true_eq] at this
    exact this k hk
  · have := eachOp_at l 0 i o hs (by simpa using hi) D s
    rwa [Nat.zero_add] at this
  · have e : (fun k => (Array.replicate l.toArray.size false).getD k false) = fun _ => false := funext fun k => getD_replicate_false _ _
    rw [e]; exact h0
end Go.VS
