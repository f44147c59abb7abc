/- Distances in graphs, plans between masses, and how units are moved one by one: plain laws. No program; no condition. -/
import Derived.Test.YtikjejmekfpofaaV1
namespace Go.BF
set_option linter.unusedSimpArgs false
set_option linter.unusedVariables false

structure St where
  d : Nat → Int
  fr : Nat → Int

structure Ed where
  u : Nat
  v : Nat
  c : Int

def upF {α : Type} (f : Nat → α) (i : Nat) (x : α) : Nat → α := fun j => if j = i then x else f j

def rlx (F : Int) (s : St) (e : Ed) : St := if s.d e.u < F ∧ s.d e.u + e.c < s.d e.v then ⟨upF s.d e.v (s.d e.u + e.c), upF s.fr e.v (e.u : Int)⟩ else s

def sweep (F : Int) (es : List Ed) (s : St) : St := es.foldl (rlx F) s

def sweeps (F : Int) (es : List Ed) : Nat → St → St
  | 0, s => s
  | n + 1, s => sweep F es (sweeps F es n s)

theorem rlx_le (F : Int) (s : St) (e : Ed) (v : Nat) : (rlx F s e).d v ≤ s.d v := by
  unfold rlx
  split
  · rename_i h
    simp only [upF]
    split
    · rename_i hv; subst hv; omega
    · exact Int.le_refl _
  · exact Int.le_refl _

theorem foldl_le (F : Int) : ∀ (es : List Ed) (s : St) (v : Nat), (es.foldl (rlx F) s).d v ≤ s.d v
  | [], _, _ => Int.le_refl _
  | e :: es, s, v => Int.le_trans (foldl_le F es (rlx F s e) v) (rlx_le F s e v)

/-! ### Sweeps come to rest -/
section
variable {F : Int} {es : List Ed} {p : Nat → Int} {N : Nat}

/-- The places of S are settled. -/
structure Inv (F : Int) (es : List Ed) (p : Nat → Int) (N : Nat) (S : Nat → Bool) (s : St) : Prop where
  out : ∀ e ∈ es, S e.u = true → s.d e.v ≤ s.d e.u + e.c
  low : ∀ v u, v < N → u < N → S v = true → S u = false → s.d u < F → s.d v - p v ≤ s.d u - p u

def Rest (F : Int) (es : List Ed) (s : St) : Prop := ∀ e ∈ es, s.d e.u < F → s.d e.v ≤ s.d e.u + e.c

theorem rlx_rest {s : St} {e : Ed} (h : s.d e.u < F → s.d e.v ≤ s.d e.u + e.c) : rlx F s e = s := by
  unfold rlx
  rw [if_neg]
  rintro ⟨h1, h2⟩
  have := h h1
  omega

theorem foldl_rest {s : St} : ∀ (l : List Ed), (∀ e ∈ l, s.d e.u < F → s.d e.v ≤ s.d e.u + e.c) → l.foldl (rlx F) s = s
  | [], _ => rfl
  | e :: l, h => by
    rw [List.foldl_cons, rlx_rest (h e (List.mem_cons_self ..))]
    exact foldl_rest l fun e' he' => h e' (List.mem_cons_of_mem _ he')

theorem Rest.swp {s : St} (h : Rest F es s) : sweep F es s = s := foldl_rest es h

/-- What holds in the middle of a sweep, if t is the lowest place that is not settled. -/
structure Mid (F : Int) (es : List Ed) (p : Nat → Int) (N : Nat) (S : Nat → Bool) (t : Nat) (s0 s : St) : Prop where
  same : ∀ v, v < N → S v = true ∨ v = t → s.d v = s0.d v
  high : ∀ u, u < N → S u = false → s.d u < F → s0.d t - p t ≤ s.d u - p u
  le : ∀ v, s.d v ≤ s0.d v

theorem Mid.step {S : Nat → Bool} {t : Nat} {s0 s : St} (hp : ∀ e ∈ es, p e.v ≤ p e.u + e.c) (hN : ∀ e ∈ es, e.u < N ∧ e.v < N) (ht : t < N) (htF : s0.d t < F) (hst : S t = false) (h0 : Inv F es p N S s0) (h : Mid F es p N S t s0 s) {e : Ed} (he : e ∈ es) :
    Mid F es p N S t s0 (rlx F s e) := by
  obtain ⟨h1, h2, h3⟩ := h
  obtain ⟨n1, n2⟩ := hN e he
  have hpe := hp e he
  by_cases hc : s.d e.u < F ∧ s.d e.u + e.c < s.d e.v
  · have hu : S e.u = false := by
      cases hS : S e.u with
      | false => rfl
      | true =>
        have h4 := h0.out e he hS
        have h5 := h1 e.u n1 (.inl hS)
        have h6 := h3 e.v
        omega
    have hm := h2 e.u n1 hu hc.1
    have hv : ¬ (S e.v = true ∨ e.v = t) := by
      intro hv
      have h5 := h1 e.v n2 hv
      have h7 : s0.d e.v - p e.v ≤ s0.d t - p t := by
        rcases hv with hv | hv
        · exact h0.low e.v t n2 ht hv hst htF
        · rw [hv]; exact Int.le_refl _
      omega
    have hr : rlx F s e = ⟨upF s.d e.v (s.d e.u + e.c), upF s.fr e.v (e.u : Int)⟩ := if_pos hc
    rw [hr]
    refine ⟨fun v hvN hv' => ?_, fun u huN hu' huF => ?_, fun v => ?_⟩
    · have : v ≠ e.v := fun e1 => hv (e1 ▸ hv')
      simp only [upF]
      rw [if_neg this]
      exact h1 v hvN hv'
    · simp only [upF] at huF ⊢
      split
      · rename_i e1; subst e1; omega
      · rename_i e1
        rw [if_neg e1] at huF
        exact h2 u huN hu' huF
    · simp only [upF]
      split
      · rename_i e1; subst e1; have := h3 e.v; omega
      · exact h3 v
  · have hr : rlx F s e = s := if_neg hc
    rw [hr]
    exact ⟨h1, h2, h3⟩

theorem Mid.fold {S : Nat → Bool} {t : Nat} {s0 : St} (hp : ∀ e ∈ es, p e.v ≤ p e.u + e.c) (hN : ∀ e ∈ es, e.u < N ∧ e.v < N) (ht : t < N) (htF : s0.d t < F) (hst : S t = false) (h0 : Inv F es p N S s0) :
    ∀ (l : List Ed) (s : St), (∀ e ∈ l, e ∈ es) → Mid F es p N S t s0 s → Mid F es p N S t s0 (l.foldl (rlx F) s) ∧ ∀ e ∈ l, e.u = t → (l.foldl (rlx F) s).d e.v ≤ s0.d t + e.c
  | [], _, _, h => ⟨h, fun _ he => by cases he⟩
  | e :: l, s, hl, h => by
    have h' := h.step hp hN ht htF hst h0 (hl e (List.mem_cons_self ..))
    obtain ⟨k1, k2⟩ := Mid.fold hp hN ht htF hst h0 l (rlx F s e) (fun e' he' => hl e' (List.mem_cons_of_mem _ he')) h'
    refine ⟨k1, fun e' he' hu => ?_⟩
    rcases List.mem_cons.1 he' with rfl | he'
    · have h4 := foldl_le F l (rlx F s e') e'.v
      have h5 := h.same t ht (.inr rfl)
      have h6 : (rlx F s e').d e'.v ≤ s0.d t + e'.c := by
        unfold rlx
        split
        · simp only [upF, if_true, hu, h5]; exact Int.le_refl _
        · rename_i hc
          rw [hu, h5] at hc
          omega
      exact Int.le_trans h4 h6
    · exact k2 e' he' hu

theorem exists_low (f : Nat → Int) (q : Nat → Bool) : ∀ n : Nat, (∃ u, u < n ∧ q u = true) → ∃ t, t < n ∧ q t = true ∧ ∀ u, u < n → q u = true → f t ≤ f u
  | 0, h => by obtain ⟨u, hu, _⟩ := h; omega
  | n + 1, h => by
    by_cases hn : ∃ u, u < n ∧ q u = true
    · obtain ⟨t, h1, h2, h3⟩ := exists_low f q n hn
      by_cases hq : q n = true ∧ f n < f t
      · refine ⟨n, by omega, hq.1, fun u hu hqu => ?_⟩
        rcases Nat.lt_or_ge u n with hlt | hge
        · have := h3 u hlt hqu; omega
        · have : u = n := by omega
          subst this; exact Int.le_refl _
      · refine ⟨t, by omega, h2, fun u hu hqu => ?_⟩
        rcases Nat.lt_or_ge u n with hlt | hge
        · exact h3 u hlt hqu
        · have : u = n := by omega
          subst this
          by_cases hf : f u < f t
          · exact absurd ⟨hqu, hf⟩ hq
          · omega
    · obtain ⟨u, hu, hqu⟩ := h
      have : u = n := by
        rcases Nat.lt_or_ge u n with hlt | hge
        · exact absurd ⟨u, hlt, hqu⟩ hn
        · omega
      subst this
      refine ⟨u, hu, hqu, fun x hx hqx => ?_⟩
      rcases Nat.lt_or_ge x u with hlt | hge
      · exact absurd ⟨x, hlt, hqx⟩ hn
      · have : x = u := by omega
        subst this; exact Int.le_refl _

theorem count_lt {q q' : Nat → Bool} {t : Nat} (hi : ∀ x, q' x = true → q x = true) (h1 : q t = true) (h2 : q' t = false) : ∀ n : Nat, ((List.range n).countP q' ≤ (List.range n).countP q) ∧ (t < n → (List.range n).countP q' + 1 ≤ (List.range n).countP q)
  | 0 => ⟨by simp, fun h => by omega⟩
  | n + 1 => by
    obtain ⟨k1, k2⟩ := count_lt hi h1 h2 n
    rw [List.range_succ, List.countP_append, List.countP_append, List.countP_singleton, List.countP_singleton]
    have h3 : (if q' n = true then 1 else 0) ≤ (if q n = true then 1 else 0) := by
      cases hq : q' n with
      | false => simp
      | true => simp [hi n hq]
    refine ⟨by omega, fun ht => ?_⟩
    rcases Nat.lt_or_ge t n with hlt | hge
    · have := k2 hlt; omega
    · have : t = n := by omega
      subst this
      simp only [h1, h2, if_true]
      simp
      omega

theorem Inv.swp {S : Nat → Bool} {s : St} (hp : ∀ e ∈ es, p e.v ≤ p e.u + e.c) (hN : ∀ e ∈ es, e.u < N ∧ e.v < N) (h : Inv F es p N S s) :
    Rest F es s ∨ ∃ S', Inv F es p N S' (sweep F es s) ∧ (List.range N).countP (fun v => !S' v) + 1 ≤ (List.range N).countP (fun v => !S v) := by
  by_cases hu : ∃ u, u < N ∧ (!S u && decide (s.d u < F)) = true
  · obtain ⟨t, h1, h2, h3⟩ := exists_low (fun u => s.d u - p u) _ N hu
    simp only [Bool.and_eq_true, Bool.not_eq_true', decide_eq_true_eq] at h2 h3
    right
    obtain ⟨k1, k2⟩ := Mid.fold hp hN h1 h2.2 h2.1 h es s (fun _ he => he) ⟨fun _ _ _ => rfl, fun u huN hu' huF => h3 u huN ⟨hu', huF⟩, fun _ => Int.le_refl _⟩
    refine ⟨fun v => S v || decide (v = t), ⟨fun e he hS => ?_, fun v u hv hu' hS hSu huF => ?_⟩, ?_⟩
    · show (sweep F es s).d e.v ≤ (sweep F es s).d e.u + e.c
      simp only [Bool.or_eq_true, decide_eq_true_eq] at hS
      have h4 : (sweep F es s).d e.u = s.d e.u := k1.same e.u (hN e he).1 hS
      rw [h4]
      by_cases ht : e.u = t
      · rw [ht]; exact k2 e he ht
      · have h5 := h.out e he (hS.resolve_right ht)
        have h6 : (sweep F es s).d e.v ≤ s.d e.v := foldl_le F es s e.v
        omega
    · simp only [Bool.or_eq_true, decide_eq_true_eq, Bool.or_eq_false_iff, decide_eq_false_iff_not] at hS hSu
      have h4 : (sweep F es s).d v = s.d v := k1.same v hv hS
      have h5 : s.d t - p t ≤ (sweep F es s).d u - p u := k1.high u hu' hSu.1 huF
      rw [h4]
      have h6 : s.d v - p v ≤ s.d t - p t := by
        rcases hS with hS | hS
        · exact h.low v t hv h1 hS h2.1 h2.2
        · rw [hS]; exact Int.le_refl _
      omega
    · refine (count_lt (t := t) (fun x hx => ?_) ?_ ?_ N).2 h1
      · simp only [Bool.not_eq_true', Bool.or_eq_false_iff] at hx ⊢
        exact hx.1
      · simp [h2.1]
      · simp
  · left
    intro e he hF
    have hS : S e.u = true := by
      cases hS : S e.u with
      | true => rfl
      | false => exact absurd ⟨e.u, (hN e he).1, by simp [hS, hF]⟩ hu
    exact h.out e he hS

/-- After as many sweeps as there are places, all is at rest. -/
theorem rest_sweeps (s : St) (hp : ∀ e ∈ es, p e.v ≤ p e.u + e.c) (hN : ∀ e ∈ es, e.u < N ∧ e.v < N) : Rest F es (sweeps F es N s) := by
  have key : ∀ k, Rest F es (sweeps F es k s) ∨ ∃ S, Inv F es p N S (sweeps F es k s) ∧ (List.range N).countP (fun v => !S v) + k ≤ N := by
    intro k
    induction k with
    | zero => exact .inr ⟨fun _ => false, ⟨fun _ _ h => Bool.noConfusion h, fun _ _ _ _ h => Bool.noConfusion h⟩, by simp⟩
    | succ k ih =>
      rcases ih with ih | ⟨S, h1, h2⟩
      · left
        show Rest F es (sweep F es (sweeps F es k s))
        rw [ih.swp]; exact ih
      · rcases h1.swp hp hN with h3 | ⟨S', h3, h4⟩
        · left
          show Rest F es (sweep F es (sweeps F es k s))
          rw [h3.swp]; exact h3
        · exact .inr ⟨S', h3, by omega⟩
  rcases key N with h | ⟨S, h1, h2⟩
  · exact h
  · intro e he _
    refine h1.out e he ?_
    have h3 : (List.range N).countP (fun v => !S v) = 0 := by omega
    rw [List.countP_eq_zero] at h3
    have := h3 e.u (List.mem_range.2 (hN e he).1)
    simpa using this

/-! ### The chains behind the distances -/
inductive Chain (F : Int) (s : St) : Nat → Nat → Prop where
  | zero {v : Nat} : s.d v < F → s.fr v = -1 → Chain F s 0 v
  | succ {k v u : Nat} : s.d v < F → s.fr v = (u : Int) → Chain F s k u → Chain F s (k + 1) v

structure Way (F : Int) (es : List Ed) (s : St) : Prop where
  chain : ∀ v, s.d v < F → ∃ k, Chain F s k v
  tight : ∀ v u : Nat, s.d v < F → s.fr v = (u : Int) → ∃ e ∈ es, e.u = u ∧ e.v = v ∧ s.d u < F ∧ s.d u + e.c ≤ s.d v

theorem Way.rlx {s : St} (hp : ∀ e ∈ es, p e.v ≤ p e.u + e.c) (h : Way F es s) (hF : ∀ v, s.d v ≤ F) {e : Ed} (he : e ∈ es) : Way F es (rlx F s e) := by
  by_cases hc : s.d e.u < F ∧ s.d e.u + e.c < s.d e.v
  · have hr : BF.rlx F s e = ⟨upF s.d e.v (s.d e.u + e.c), upF s.fr e.v (e.u : Int)⟩ := if_pos hc
    rw [hr]
    have hpe := hp e he
    have hne : e.u ≠ e.v := fun e1 => by rw [e1] at hc hpe; omega
    have hd : ∀ y, y ≠ e.v → upF s.d e.v (s.d e.u + e.c) y = s.d y := fun y hy => if_neg hy
    have hf : ∀ y, y ≠ e.v → upF s.fr e.v (e.u : Int) y = s.fr y := fun y hy => if_neg hy
    have hdv : upF s.d e.v (s.d e.u + e.c) e.v = s.d e.u + e.c := if_pos rfl
    have hfv : upF s.fr e.v (e.u : Int) e.v = (e.u : Int) := if_pos rfl
    have up : ∀ k y, Chain F s k y → s.d y - p y ≤ s.d e.u - p e.u → Chain F ⟨upF s.d e.v (s.d e.u + e.c), upF s.fr e.v (e.u : Int)⟩ k y := by
      intro k y hch
      induction hch with
      | zero h1 h2 =>
        rename_i y
        intro hy
        have hyv : y ≠ e.v := fun e1 => by subst e1; omega
        exact .zero (by show upF s.d e.v _ y < F; rw [hd y hyv]; exact h1) (by show upF s.fr e.v _ y = -1; rw [hf y hyv]; exact h2)
      | succ h1 h2 h3 ih =>
        rename_i k y z
        intro hy
        have hyv : y ≠ e.v := fun e1 => by subst e1; omega
        obtain ⟨e', he', e1, e2, e3, e4⟩ := h.tight y z h1 h2
        have hpz := hp e' he'
        rw [e1, e2] at hpz
        exact .succ (by show upF s.d e.v _ y < F; rw [hd y hyv]; exact h1) (by show upF s.fr e.v _ y = _; rw [hf y hyv]; exact h2) (ih (by omega))
    obtain ⟨ku, hku⟩ := h.chain e.u hc.1
    have hvF : upF s.d e.v (s.d e.u + e.c) e.v < F := by rw [hdv]; have := hF e.v; omega
    have chv : Chain F ⟨upF s.d e.v (s.d e.u + e.c), upF s.fr e.v (e.u : Int)⟩ (ku + 1) e.v := .succ hvF hfv (up ku e.u hku (Int.le_refl _))
    have all : ∀ k y, Chain F s k y → ∃ k', Chain F ⟨upF s.d e.v (s.d e.u + e.c), upF s.fr e.v (e.u : Int)⟩ k' y := by
      intro k y hch
      induction hch with
      | zero h1 h2 =>
        rename_i y
        by_cases hyv : y = e.v
        · rw [hyv]; exact ⟨_, chv⟩
        · exact ⟨0, .zero (by show upF s.d e.v _ y < F; rw [hd y hyv]; exact h1) (by show upF s.fr e.v _ y = -1; rw [hf y hyv]; exact h2)⟩
      | succ h1 h2 h3 ih =>
        rename_i k y z
        by_cases hyv : y = e.v
        · rw [hyv]; exact ⟨_, chv⟩
        · obtain ⟨k', hk'⟩ := ih
          exact ⟨k' + 1, .succ (by show upF s.d e.v _ y < F; rw [hd y hyv]; exact h1) (by show upF s.fr e.v _ y = _; rw [hf y hyv]; exact h2) hk'⟩
    refine ⟨fun v hv => ?_, fun v u hv hu => ?_⟩
    · by_cases hvv : v = e.v
      · rw [hvv]; exact ⟨_, chv⟩
      · have hv' : s.d v < F := by
          have : upF s.d e.v (s.d e.u + e.c) v < F := hv
          rw [hd v hvv] at this; exact this
        obtain ⟨k, hk⟩ := h.chain v hv'
        exact all k v hk
    · have hle : ∀ y, upF s.d e.v (s.d e.u + e.c) y ≤ s.d y := fun y => by
        by_cases hy : y = e.v
        · rw [hy, hdv]; omega
        · rw [hd y hy]; exact Int.le_refl _
      by_cases hvv : v = e.v
      · subst hvv
        have hu' : upF s.fr e.v (e.u : Int) e.v = (u : Int) := hu
        rw [hfv] at hu'
        have : e.u = u := by omega
        subst this
        refine ⟨e, he, rfl, rfl, ?_, ?_⟩
        · show upF s.d e.v _ e.u < F
          rw [hd _ hne]; exact hc.1
        · show upF s.d e.v _ e.u + e.c ≤ upF s.d e.v _ e.v
          rw [hd _ hne, hdv]; exact Int.le_refl _
      · have hv' : upF s.d e.v (s.d e.u + e.c) v < F := hv
        have hu' : upF s.fr e.v (e.u : Int) v = (u : Int) := hu
        rw [hd v hvv] at hv'
        rw [hf v hvv] at hu'
        obtain ⟨e', he', e1, e2, e3, e4⟩ := h.tight v u hv' hu'
        refine ⟨e', he', e1, e2, ?_, ?_⟩
        · exact Int.lt_of_le_of_lt (hle u) e3
        · show upF s.d e.v _ u + e'.c ≤ upF s.d e.v _ v
          rw [hd v hvv]
          have := hle u
          omega
  · have hr : BF.rlx F s e = s := if_neg hc
    rw [hr]
    exact h

theorem Way.fold (hp : ∀ e ∈ es, p e.v ≤ p e.u + e.c) : ∀ (l : List Ed) (s : St), (∀ e ∈ l, e ∈ es) → Way F es s → (∀ v, s.d v ≤ F) → Way F es (l.foldl (BF.rlx F) s) ∧ ∀ v, (l.foldl (BF.rlx F) s).d v ≤ F
  | [], _, _, h, hF => ⟨h, hF⟩
  | e :: l, s, hl, h, hF => Way.fold hp l (BF.rlx F s e) (fun e' he' => hl e' (List.mem_cons_of_mem _ he')) (h.rlx hp hF (hl e (List.mem_cons_self ..))) (fun v => Int.le_trans (rlx_le F s e v) (hF v))

theorem Way.sweeps (hp : ∀ e ∈ es, p e.v ≤ p e.u + e.c) (s : St) (h : Way F es s) (hF : ∀ v, s.d v ≤ F) : ∀ n, Way F es (BF.sweeps F es n s) ∧ ∀ v, (BF.sweeps F es n s).d v ≤ F
  | 0 => ⟨h, hF⟩
  | n + 1 => by
    obtain ⟨h1, h2⟩ := Way.sweeps hp s h hF n
    exact Way.fold hp es _ (fun _ he => he) h1 h2

/-- A place has one chain alone. -/
theorem Chain.len {s : St} {k : Nat} {v : Nat} (h : Chain F s k v) : ∀ k', Chain F s k' v → k = k' := by
  induction h with
  | zero h1 h2 =>
    intro k' h'
    cases h' with
    | zero => rfl
    | succ a b c => rw [h2] at b; omega
  | succ h1 h2 h3 ih =>
    intro k' h'
    cases h' with
    | zero a b => rw [h2] at b; omega
    | succ a b c =>
      rename_i u1 k2 u2
      rw [h2] at b
      have : u1 = u2 := by omega
      subst this
      rw [ih _ c]
end
end Go.BF

namespace Go.OT
set_option linter.unusedSimpArgs false
set_option linter.unusedVariables false

def sg : Nat → (Nat → Int) → Int
  | 0, _ => 0
  | n + 1, f => sg n f + f n

theorem sg_congr {f g : Nat → Int} : ∀ (n : Nat), (∀ i, i < n → f i = g i) → sg n f = sg n g
  | 0, _ => rfl
  | n + 1, h => by simp only [sg]; rw [sg_congr n fun i hi => h i (by omega), h n (by omega)]
theorem sg_le {f g : Nat → Int} : ∀ (n : Nat), (∀ i, i < n → f i ≤ g i) → sg n f ≤ sg n g
  | 0, _ => Int.le_refl _
  | n + 1, h => by
    have h1 := sg_le n fun i hi => h i (by omega)
    have h2 := h n (by omega)
    simp only [sg]; omega
theorem sg_zero : ∀ (n : Nat), sg n (fun _ => 0) = 0
  | 0 => rfl
  | n + 1 => by simp only [sg, sg_zero n]; rfl
theorem sg_nonneg {f : Nat → Int} (n : Nat) (h : ∀ i, i < n → 0 ≤ f i) : 0 ≤ sg n f := by
  have := sg_le (f := fun _ => 0) (g := f) n h
  rwa [sg_zero] at this
theorem sg_add (f g : Nat → Int) : ∀ (n : Nat), sg n (fun i => f i + g i) = sg n f + sg n g
  | 0 => rfl
  | n + 1 => by simp only [sg, sg_add f g n]; omega
theorem sg_sub (f g : Nat → Int) : ∀ (n : Nat), sg n (fun i => f i - g i) = sg n f - sg n g
  | 0 => rfl
  | n + 1 => by simp only [sg, sg_sub f g n]; omega
theorem sg_mul (k : Int) (f : Nat → Int) : ∀ (n : Nat), sg n (fun i => k * f i) = k * sg n f
  | 0 => by simp [sg]
  | n + 1 => by simp only [sg, sg_mul k f n, Int.mul_add]
theorem sg_swap (m : Nat) (f : Nat → Nat → Int) : ∀ (n : Nat), sg n (fun i => sg m (fun j => f i j)) = sg m (fun j => sg n (fun i => f i j))
  | 0 => by simp only [sg]; exact (sg_zero m).symm
  | n + 1 => by
    simp only [sg]
    rw [sg_swap m f n, ← sg_add]
theorem sg_one (x : Int) (k : Nat) : ∀ (n : Nat), sg n (fun i => if i = k then x else 0) = if k < n then x else 0
  | 0 => by simp [sg]
  | n + 1 => by
    simp only [sg, sg_one x k n]
    by_cases h1 : n = k
    · subst h1
      rw [if_neg (Nat.lt_irrefl _), if_pos rfl, if_pos (Nat.lt_succ_self _)]; omega
    · rw [if_neg h1]
      by_cases h2 : k < n
      · rw [if_pos h2, if_pos (by omega)]; omega
      · rw [if_neg h2, if_neg (by omega)]; omega
theorem sg_at {f : Nat → Int} : ∀ (n : Nat), (∀ i, i < n → 0 ≤ f i) → ∀ k, k < n → f k ≤ sg n f
  | 0, _, k, hk => by omega
  | n + 1, h, k, hk => by
    simp only [sg]
    have h0 := sg_nonneg n fun i hi => h i (by omega)
    have h1 := h n (by omega)
    rcases Nat.lt_or_ge k n with h2 | h2
    · have := sg_at n (fun i hi => h i (by omega)) k h2; omega
    · obtain rfl : k = n := by omega
      omega
theorem sg_all0 {f : Nat → Int} (n : Nat) (h : ∀ i, i < n → 0 ≤ f i) (hs : sg n f = 0) (k : Nat) (hk : k < n) : f k = 0 := by
  have h1 := sg_at n h k hk
  have h2 := h k hk
  omega
/-- A sum at which one number is another one. -/
theorem sg_upd {f g : Nat → Int} {k n : Nat} (hk : k < n) (h : ∀ i, i < n → i ≠ k → g i = f i) : sg n g = sg n f + (g k - f k) := by
  have h1 : sg n g = sg n (fun i => f i + if i = k then g k - f k else 0) := sg_congr n fun i hi => by
    by_cases he : i = k
    · subst he; rw [if_pos rfl]; omega
    · rw [if_neg he, h i hi he]; omega
  rw [h1, sg_add, sg_one, if_pos hk]
theorem sg_lt {f g : Nat → Int} (n : Nat) (h : ∀ i, i < n → f i ≤ g i) {k : Nat} (hk : k < n) (hlt : f k < g k) : sg n f < sg n g := by
  have h1 := sg_at n (f := fun i => g i - f i) (fun i hi => by have := h i hi; omega) k hk
  rw [sg_sub] at h1
  omega

/-- The cost of a table at costs c. -/
def cst (R C : Nat) (c p : Nat → Nat → Int) : Int := sg R fun i => sg C fun j => c i j * p i j
/-- The sums. -/
def rowS (C : Nat) (p : Nat → Nat → Int) (i : Nat) : Int := sg C fun j => p i j
def colS (R : Nat) (p : Nat → Nat → Int) (j : Nat) : Int := sg R fun i => p i j
def worth (R C : Nat) (a b u v : Nat → Int) : Int := sg R (fun i => a i * u i) + sg C (fun j => b j * v j)

theorem cst_prices (R C : Nat) (p : Nat → Nat → Int) (u v : Nat → Int) : cst R C (fun i j => u i + v j) p = worth R C (rowS C p) (colS R p) u v := by
  unfold cst worth
  have h1 : (sg R fun i => sg C fun j => (u i + v j) * p i j) = sg R (fun i => sg C (fun j => u i * p i j) + sg C (fun j => v j * p i j)) := sg_congr R fun i _ => by
    rw [← sg_add]
    exact sg_congr C fun j _ => Int.add_mul ..
  rw [h1, sg_add]
  congr 1
  · exact sg_congr R fun i _ => by rw [sg_mul, Int.mul_comm]; rfl
  · rw [sg_swap]
    exact sg_congr C fun j _ => by rw [sg_mul, Int.mul_comm]; rfl

theorem worth_congr {R C : Nat} {a a' b b' u v : Nat → Int} (ha : ∀ i, i < R → a i = a' i) (hb : ∀ j, j < C → b j = b' j) : worth R C a b u v = worth R C a' b' u v := by
  unfold worth
  rw [sg_congr R fun i hi => by rw [ha i hi], sg_congr C fun j hj => by rw [hb j hj]]

structure IsPlan (R C : Nat) (a b : Nat → Int) (p : Nat → Nat → Int) : Prop where
  nn : ∀ i j, i < R → j < C → 0 ≤ p i j
  row : ∀ i, i < R → rowS C p i = a i
  col : ∀ j, j < C → colS R p j = b j

def Holds (R C : Nat) (c : Nat → Nat → Int) (u v : Nat → Int) : Prop := ∀ i j, i < R → j < C → u i + v j ≤ c i j
def Tight (R C : Nat) (c p : Nat → Nat → Int) (u v : Nat → Int) : Prop := ∀ i j, i < R → j < C → 0 < p i j → u i + v j = c i j

section
variable {R C : Nat} {a b : Nat → Int} {c p : Nat → Nat → Int} {u v : Nat → Int}
theorem IsPlan.worth_le (hp : IsPlan R C a b p) (h : Holds R C c u v) : worth R C a b u v ≤ cst R C c p := by
  rw [← worth_congr (fun i hi => hp.row i hi) (fun j hj => hp.col j hj), ← cst_prices]
  exact sg_le R fun i hi => sg_le C fun j hj => Int.mul_le_mul_of_nonneg_right (h i j hi hj) (hp.nn i j hi hj)
theorem IsPlan.worth_eq (hp : IsPlan R C a b p) (h : Tight R C c p u v) : worth R C a b u v = cst R C c p := by
  rw [← worth_congr (fun i hi => hp.row i hi) (fun j hj => hp.col j hj), ← cst_prices]
  refine sg_congr R fun i hi => sg_congr C fun j hj => ?_
  show (u i + v j) * p i j = c i j * p i j
  by_cases h0 : 0 < p i j
  · rw [h i j hi hj h0]
  · have := hp.nn i j hi hj
    have h1 : p i j = 0 := by omega
    rw [h1, Int.mul_zero, Int.mul_zero]
theorem IsPlan.tight_of (hp : IsPlan R C a b p) (h : Holds R C c u v) (he : cst R C c p = worth R C a b u v) : Tight R C c p u v := by
  rw [← worth_congr (fun i hi => hp.row i hi) (fun j hj => hp.col j hj), ← cst_prices] at he
  intro i j hi hj h0
  have h1 : ∀ i j, i < R → j < C → 0 ≤ c i j * p i j - (u i + v j) * p i j := fun i j hi hj => by
    have := Int.mul_le_mul_of_nonneg_right (h i j hi hj) (hp.nn i j hi hj); omega
  have h2 : sg R (fun i => sg C fun j => c i j * p i j - (u i + v j) * p i j) = 0 := by
    rw [sg_congr R fun i _ => sg_sub (fun j => c i j * p i j) (fun j => (u i + v j) * p i j) C, sg_sub]
    dsimp only [cst] at he; omega
  have h3 := sg_all0 R (fun i hi => sg_nonneg C fun j hj => h1 i j hi hj) h2 i hi
  have h4 := sg_all0 C (fun j hj => h1 i j hi hj) h3 j hj
  have h5 : c i j * p i j = (u i + v j) * p i j := by omega
  have h6 := Int.eq_of_mul_eq_mul_right (by omega : p i j ≠ 0) h5
  exact h6.symm
/-- A plan with tight prices costs at most as much as any other one. -/
theorem IsPlan.least (hp : IsPlan R C a b p) (h : Holds R C c u v) (ht : Tight R C c p u v) {q : Nat → Nat → Int} (hq : IsPlan R C a b q) : cst R C c p ≤ cst R C c q := by
  rw [← hp.worth_eq ht]; exact hq.worth_le h
end

/-! ### Plans that move a part -/
structure IsPart (R C : Nat) (a b : Nat → Int) (p : Nat → Nat → Int) : Prop where
  nn : ∀ i j, i < R → j < C → 0 ≤ p i j
  row : ∀ i, i < R → rowS C p i ≤ a i
  col : ∀ j, j < C → colS R p j ≤ b j
def units (R C : Nat) (p : Nat → Nat → Int) : Int := sg R (rowS C p)
theorem units_col (R C : Nat) (p : Nat → Nat → Int) : units R C p = sg C (colS R p) := sg_swap C p R

/-- Costs r of coming to rows, s of coming to columns, at which the last unit cost V. -/
structure Good (R C : Nat) (a b : Nat → Int) (c p : Nat → Nat → Int) (r s : Nat → Int) (V : Int) : Prop where
  hold : ∀ i j, i < R → j < C → s j ≤ r i + c i j
  tight : ∀ i j, i < R → j < C → 0 < p i j → s j = r i + c i j
  rnn : ∀ i, i < R → 0 ≤ r i
  rleft : ∀ i, i < R → rowS C p i < a i → r i = 0
  sle : ∀ j, j < C → s j ≤ V
  sleft : ∀ j, j < C → colS R p j < b j → s j = V

section
variable {R C : Nat} {a b : Nat → Int} {c p : Nat → Nat → Int} {r s : Nat → Int} {V : Int}
theorem cst_part (R C : Nat) (q : Nat → Nat → Int) (r s : Nat → Int) (V : Int) : cst R C (fun i j => - r i + s j) q = V * units R C q - sg R (fun i => rowS C q i * r i) - sg C (fun j => colS R q j * (V - s j)) := by
  rw [cst_prices, units_col]
  unfold worth
  have h1 : sg R (fun i => rowS C q i * - r i) = - sg R (fun i => rowS C q i * r i) := by
    have : sg R (fun i => rowS C q i * - r i) = sg R (fun i => (-1) * (rowS C q i * r i)) := sg_congr R fun i _ => by
      rw [Int.mul_neg, Int.neg_mul, Int.one_mul]
    rw [this, sg_mul]; omega
  have h2 : sg C (fun j => colS R q j * (V - s j)) = V * sg C (colS R q) - sg C (fun j => colS R q j * s j) := by
    rw [← sg_mul, ← sg_sub]
    exact sg_congr C fun j _ => by rw [Int.mul_sub, Int.mul_comm (colS R q j) V]
  rw [h1, h2]; omega

/-- What a plan with good costs costs. -/
theorem Good.cost (h : Good R C a b c p r s V) (hp : IsPart R C a b p) : cst R C c p = V * units R C p - sg R (fun i => a i * r i) - sg C (fun j => b j * (V - s j)) := by
  have h1 : cst R C c p = cst R C (fun i j => - r i + s j) p := by
    refine sg_congr R fun i hi => sg_congr C fun j hj => ?_
    by_cases h0 : 0 < p i j
    · have := h.tight i j hi hj h0
      rw [show c i j = - r i + s j by omega]
    · have := hp.nn i j hi hj
      rw [show p i j = 0 by omega, Int.mul_zero, Int.mul_zero]
  rw [h1, cst_part R C p r s V]
  congr 1
  · congr 1
    refine sg_congr R fun i hi => ?_
    by_cases h0 : rowS C p i < a i
    · rw [h.rleft i hi h0, Int.mul_zero, Int.mul_zero]
    · have := hp.row i hi
      rw [show rowS C p i = a i by omega]
  · refine sg_congr C fun j hj => ?_
    by_cases h0 : colS R p j < b j
    · rw [h.sleft j hj h0, Int.sub_self, Int.mul_zero, Int.mul_zero]
    · have := hp.col j hj
      rw [show colS R p j = b j by omega]
/-- No plan costs less than the good costs tell. -/
theorem Good.bound (h : Good R C a b c p r s V) {q : Nat → Nat → Int} (hq : IsPart R C a b q) : V * units R C q - sg R (fun i => a i * r i) - sg C (fun j => b j * (V - s j)) ≤ cst R C c q := by
  have h1 : cst R C (fun i j => - r i + s j) q ≤ cst R C c q := sg_le R fun i hi => sg_le C fun j hj =>
    Int.mul_le_mul_of_nonneg_right (by have := h.hold i j hi hj; show - r i + s j ≤ c i j; omega) (hq.nn i j hi hj)
  rw [cst_part R C q r s V] at h1
  have h2 : sg R (fun i => rowS C q i * r i) ≤ sg R (fun i => a i * r i) := sg_le R fun i hi => Int.mul_le_mul_of_nonneg_right (hq.row i hi) (h.rnn i hi)
  have h3 : sg C (fun j => colS R q j * (V - s j)) ≤ sg C (fun j => b j * (V - s j)) := sg_le C fun j hj => Int.mul_le_mul_of_nonneg_right (hq.col j hj) (by have := h.sle j hj; omega)
  omega
/-- A plan with good costs is a cheapest one of its size; a plan of another size costs as many times V more at least. -/
theorem Good.least (h : Good R C a b c p r s V) (hp : IsPart R C a b p) {q : Nat → Nat → Int} (hq : IsPart R C a b q) : cst R C c p + V * (units R C q - units R C p) ≤ cst R C c q := by
  have h1 := h.cost hp
  have h2 := h.bound hq
  rw [Int.mul_sub]; omega
end

/-- Different numbers below n are at most n. -/
theorem pigeon : ∀ (n k : Nat) (f : Nat → Nat), (∀ i, i < k → f i < n) → (∀ i j, i < j → j < k → f i ≠ f j) → k ≤ n
  | 0, k, f, h, _ => by
    rcases Nat.eq_zero_or_pos k with h0 | h0
    · omega
    · have := h 0 h0; omega
  | n + 1, k, f, h, hd => by
    by_cases hx : ∃ m, m < k ∧ f m = n
    · obtain ⟨m, hm, hfm⟩ := hx
      have h1 : ∀ i, i < k - 1 → (fun i => if i < m then f i else f (i + 1)) i < n := fun i hi => by
        show (if i < m then f i else f (i + 1)) < n
        split
        · rename_i hl
          have h2 := h i (by omega); have h3 := hd i m hl hm; omega
        · rename_i hl
          have h2 := h (i + 1) (by omega); have h3 := hd m (i + 1) (by omega) (by omega); omega
      have := pigeon n (k - 1) _ h1 fun i j hij hj => by
        show (if i < m then f i else f (i + 1)) ≠ (if j < m then f j else f (j + 1))
        split <;> split
        · exact hd i j hij (by omega)
        · exact hd i (j + 1) (by omega) (by omega)
        · omega
        · exact hd (i + 1) (j + 1) (by omega) (by omega)
      omega
    · have h1 : ∀ i, i < k → f i < n := fun i hi => by
        have h2 := h i hi
        have h3 : f i ≠ n := fun e => hx ⟨i, hi, e⟩
        omega
      have := pigeon n k f h1 hd
      omega
end Go.OT

namespace Go.OT
set_option linter.unusedSimpArgs false
set_option linter.unusedVariables false

/-- f at the numbers below n, one after another. -/
def upto {σ : Type} (f : Nat → σ → σ) : Nat → σ → σ
  | 0, s => s
  | n + 1, s => f n (upto f n s)

def ga (l : List Int) (i : Nat) : Int := l.getD i 0
def gt (p : List (List Int)) (i j : Nat) : Int := (p.getD i []).getD j 0

theorem mem_getD {α : Type} {l : List α} (d : α) {i : Nat} (h : i < l.length) : l.getD i d ∈ l := by
  rw [List.getD_eq_getElem?_getD, List.getElem?_eq_getElem h]
  exact List.getElem_mem h
theorem getD_set {α : Type} (l : List α) (i k : Nat) (x d : α) : (l.set i x).getD k d = if i = k ∧ i < l.length then x else l.getD k d := by
  rw [List.getD_eq_getElem?_getD, List.getD_eq_getElem?_getD, List.getElem?_set]
  by_cases h : i = k
  · subst h
    by_cases h2 : i < l.length
    · rw [if_pos rfl, if_pos h2, if_pos ⟨rfl, h2⟩]; rfl
    · rw [if_pos rfl, if_neg h2, if_neg (fun h => h2 h.2), List.getElem?_eq_none (by omega)]
  · rw [if_neg h, if_neg (fun h2 => h h2.1)]
theorem ga_set {l : List Int} {i : Nat} (h : i < l.length) (x : Int) (k : Nat) : (l.set i x).getD k 0 = if k = i then x else l.getD k 0 := by
  rw [getD_set]
  by_cases hk : k = i
  · rw [if_pos ⟨hk.symm, h⟩, if_pos hk]
  · rw [if_neg (fun h2 => hk h2.1.symm), if_neg hk]

/-! ### What a plan leaves -/
def takeN (l : List Int) (i : Nat) (n : Int) : List Int := l.set i (l.getD i 0 - n)
def leftStep (p : List (List Int)) (i j : Nat) (s : List Int × List Int) : List Int × List Int := (takeN s.1 i ((p.getD i []).getD j 0), takeN s.2 j ((p.getD i []).getD j 0))
def leftRow (p : List (List Int)) (i : Nat) (s : List Int × List Int) : List Int × List Int := upto (leftStep p i) (p.getD i []).length s
/-- What a plan leaves. -/
def leftV (a b : List Int) (p : List (List Int)) : List Int × List Int := upto (leftRow p) p.length (a, b)

def Bnd (lo hi : Int) (l : List Int) : Prop := ∀ x ∈ l, lo ≤ x ∧ x ≤ hi
theorem Bnd.at {lo hi : Int} {l : List Int} (h : Bnd lo hi l) {i : Nat} (h1 : i < l.length) : lo ≤ l.getD i 0 ∧ l.getD i 0 ≤ hi := h _ (mem_getD 0 h1)
theorem Bnd.of {lo hi : Int} {l : List Int} (h : ∀ i, i < l.length → lo ≤ l.getD i 0 ∧ l.getD i 0 ≤ hi) : Bnd lo hi l := fun x hx => by
  obtain ⟨i, hi, rfl⟩ := List.getElem_of_mem hx
  have := h i hi
  rwa [List.getD_eq_getElem?_getD, List.getElem?_eq_getElem hi] at this
theorem Bnd.take {lo hi : Int} {l : List Int} (h : Bnd lo hi l) {i : Nat} {n : Int} (h1 : i < l.length) (hn : 0 ≤ n ∧ n ≤ 200) : Bnd (lo - 200) hi (takeN l i n) := by
  intro x hx
  have h0 := h.at h1
  rcases List.mem_or_eq_of_mem_set hx with hx | rfl
  · have := h x hx; omega
  · omega
theorem Bnd.mono {lo hi lo' : Int} {l : List Int} (h : Bnd lo hi l) (hl : lo' ≤ lo) : Bnd lo' hi l := fun x hx => by have := h x hx; omega
theorem Bnd.set {lo hi : Int} {l : List Int} (h : Bnd lo hi l) {i : Nat} {x : Int} (hx : lo ≤ x ∧ x ≤ hi) : Bnd lo hi (l.set i x) := by
  intro y hy
  rcases List.mem_or_eq_of_mem_set hy with hy | rfl
  · exact h y hy
  · exact hx
theorem takeN_length (l : List Int) (i : Nat) (n : Int) : (takeN l i n).length = l.length := by simp [takeN]

/-- A table of R rows and C columns with numbers from lo to hi. -/
structure Tb (R C : Nat) (lo hi : Int) (p : List (List Int)) : Prop where
  rows : p.length = R
  cols : ∀ i, i < R → (p.getD i []).length = C
  at' : ∀ i j, i < R → j < C → lo ≤ (p.getD i []).getD j 0 ∧ (p.getD i []).getD j 0 ≤ hi
theorem Tb.mem {R C : Nat} {lo hi : Int} {p : List (List Int)} (h : Tb R C lo hi p) {i : Nat} (hi' : i < R) : Bnd lo hi (p.getD i []) := Bnd.of fun j hj => h.at' i j hi' (by rw [← h.cols i hi']; exact hj)

/-- Masses and a table of their shape. -/
structure Shp (a b : List Int) (p : List (List Int)) : Prop where
  a5 : 1 ≤ a.length ∧ a.length ≤ 6
  b5 : 1 ≤ b.length ∧ b.length ≤ 6
  ha : Bnd 0 200 a
  hb : Bnd 0 200 b
  tab : Tb a.length b.length 0 200 p
theorem Shp.rows {a b : List Int} {p : List (List Int)} (h : Shp a b p) : p.length = a.length := h.tab.rows
theorem Shp.cols {a b : List Int} {p : List (List Int)} (h : Shp a b p) : ∀ i, i < p.length → (p.getD i []).length = b.length := fun i hi => h.tab.cols i (by rw [← h.rows]; exact hi)
theorem Shp.mem {a b : List Int} {p : List (List Int)} (h : Shp a b p) : ∀ i, i < p.length → Bnd 0 200 (p.getD i []) := fun i hi => h.tab.mem (by rw [← h.rows]; exact hi)

/-- What holds of the lists on the way. -/
structure LSt (a b : List Int) (m : Int) (s : List Int × List Int) : Prop where
  l1 : s.1.length = a.length
  l2 : s.2.length = b.length
  b1 : Bnd (-200 * m) 200 s.1
  b2 : Bnd (-200 * m) 200 s.2

section
variable {a b : List Int} {p : List (List Int)}
theorem LSt.step (h : Shp a b p) {m : Int} {s : List Int × List Int} (hs : LSt a b m s) {i j : Nat} (hi : i < p.length) (hj : j < b.length) : LSt a b (m + 1) (leftStep p i j s) := by
  have hn : 0 ≤ (p.getD i []).getD j 0 ∧ (p.getD i []).getD j 0 ≤ 200 := (h.mem i hi).at (by rw [h.cols i hi]; exact hj)
  exact ⟨by simp [leftStep, takeN_length, hs.l1], by simp [leftStep, takeN_length, hs.l2],
    (hs.b1.take (by rw [hs.l1, ← h.rows]; exact hi) hn).mono (by omega), (hs.b2.take (by rw [hs.l2]; exact hj) hn).mono (by omega)⟩
theorem LSt.row (h : Shp a b p) {m : Int} {s : List Int × List Int} (hs : LSt a b m s) {i : Nat} (hi : i < p.length) : ∀ j, j ≤ b.length → LSt a b (m + j) (upto (leftStep p i) j s)
  | 0, _ => by simpa [upto] using hs
  | j + 1, hj => by
    have := (LSt.row h hs hi j (by omega)).step h hi (j := j) (by omega)
    simpa [upto, Int.add_assoc] using this
theorem LSt.mono {m m' : Int} {s : List Int × List Int} (hs : LSt a b m s) (h : m ≤ m') : LSt a b m' s := ⟨hs.l1, hs.l2, hs.b1.mono (by omega), hs.b2.mono (by omega)⟩
theorem LSt.all (h : Shp a b p) : ∀ i, i ≤ p.length → LSt a b (6 * i) (upto (leftRow p) i (a, b))
  | 0, _ => ⟨rfl, rfl, h.ha.mono (by simp), h.hb.mono (by simp)⟩
  | i + 1, hi => by
    have h1 := LSt.row h (LSt.all h i (by omega)) (i := i) (by omega) b.length (Nat.le_refl _)
    have h2 := h.b5
    simp only [upto, leftRow]
    rw [h.cols i (by omega)]
    exact h1.mono (by omega)

theorem takeN_get {l : List Int} {i : Nat} (h : i < l.length) (n : Int) (k : Nat) : (takeN l i n).getD k 0 = l.getD k 0 - if k = i then n else 0 := by
  unfold takeN
  rw [ga_set h]
  by_cases hk : k = i
  · rw [if_pos hk, if_pos hk, hk]
  · rw [if_neg hk, if_neg hk]; omega

theorem leftStep_get {n m : Nat} {s : List Int × List Int} (hs : s.1.length = n ∧ s.2.length = m) {i : Nat} (hi : i < n) : ∀ j, j ≤ m →
    (upto (leftStep p i) j s).1.length = n ∧ (upto (leftStep p i) j s).2.length = m ∧
    (∀ k, (upto (leftStep p i) j s).1.getD k 0 = s.1.getD k 0 - if k = i then sg j (gt p i) else 0) ∧
    (∀ k, (upto (leftStep p i) j s).2.getD k 0 = s.2.getD k 0 - if k < j then gt p i k else 0)
  | 0, _ => ⟨hs.1, hs.2, fun k => by simp [upto, sg], fun k => by simp [upto]⟩
  | j + 1, hj => by
    obtain ⟨h1, h2, h3, h4⟩ := leftStep_get hs hi j (by omega)
    refine ⟨by simp [upto, leftStep, takeN_length, h1], by simp [upto, leftStep, takeN_length, h2], fun k => ?_, fun k => ?_⟩
    · show (takeN (upto (leftStep p i) j s).1 i (gt p i j)).getD k 0 = _
      rw [takeN_get (by omega), h3]
      by_cases hk : k = i
      · rw [if_pos hk, if_pos hk, if_pos hk]; simp only [sg]; omega
      · rw [if_neg hk, if_neg hk, if_neg hk]; omega
    · show (takeN (upto (leftStep p i) j s).2 j (gt p i j)).getD k 0 = _
      rw [takeN_get (by omega), h4]
      by_cases hk : k = j
      · subst hk
        rw [if_neg (Nat.lt_irrefl _), if_pos rfl, if_pos (Nat.lt_succ_self _)]; omega
      · rw [if_neg hk]
        by_cases hk2 : k < j
        · rw [if_pos hk2, if_pos (by omega)]; omega
        · rw [if_neg hk2, if_neg (by omega)]; omega

theorem leftRow_get (h : Shp a b p) : ∀ i, i ≤ a.length →
    (upto (leftRow p) i (a, b)).1.length = a.length ∧ (upto (leftRow p) i (a, b)).2.length = b.length ∧
    (∀ k, (upto (leftRow p) i (a, b)).1.getD k 0 = ga a k - if k < i then rowS b.length (gt p) k else 0) ∧
    (∀ k, k < b.length → (upto (leftRow p) i (a, b)).2.getD k 0 = ga b k - sg i (fun i => gt p i k))
  | 0, _ => ⟨rfl, rfl, fun k => by simp [upto, ga], fun k _ => by simp [upto, sg, ga]⟩
  | i + 1, hi => by
    obtain ⟨h1, h2, h3, h4⟩ := leftRow_get h i (by omega)
    have e : upto (leftRow p) (i + 1) (a, b) = upto (leftStep p i) b.length (upto (leftRow p) i (a, b)) := by
      show upto (leftStep p i) (p.getD i []).length _ = _
      rw [h.tab.cols i (by omega)]
    obtain ⟨k1, k2, k3, k4⟩ := leftStep_get (p := p) ⟨h1, h2⟩ (i := i) (by omega) b.length (Nat.le_refl _)
    rw [e]
    refine ⟨k1, k2, fun k => ?_, fun k hk => ?_⟩
    · rw [k3, h3]
      by_cases hk : k = i
      · subst hk
        rw [if_neg (Nat.lt_irrefl _), if_pos rfl, if_pos (Nat.lt_succ_self _)]
        show _ - sg b.length (gt p k) = _ - sg b.length (gt p k)
        omega
      · rw [if_neg hk]
        by_cases hk2 : k < i
        · rw [if_pos hk2, if_pos (by omega)]; omega
        · rw [if_neg hk2, if_neg (by omega)]; omega
    · rw [k4, h4 k hk, if_pos hk]
      simp only [sg]; omega

theorem leftV_row (h : Shp a b p) {k : Nat} (hk : k < a.length) : (leftV a b p).1.getD k 0 = ga a k - rowS b.length (gt p) k := by
  unfold leftV
  rw [h.rows, (leftRow_get h a.length (Nat.le_refl _)).2.2.1, if_pos hk]
theorem leftV_col (h : Shp a b p) {k : Nat} (hk : k < b.length) : (leftV a b p).2.getD k 0 = ga b k - colS a.length (gt p) k := by
  unfold leftV
  rw [h.rows, (leftRow_get h a.length (Nat.le_refl _)).2.2.2 k hk]
  rfl
end

/-! ### Distances -/
def far : Int := 1099511627776

/-- What it costs to come to a row or a column, and from where. -/
structure Dst where
  ra : List Int
  rf : List Int
  ca : List Int
  cf : List Int

def startStep (rows : List Int) (i : Nat) (s : List Int × List Int) : List Int × List Int := (if rows.getD i 0 = 0 then s.1.set i far else s.1, s.2.set i (-1))
def startR (rows : List Int) (n k : Nat) : List Int × List Int := upto (startStep rows) k (List.replicate n 0, List.replicate n 0)
def startC (n k : Nat) : List Int := upto (fun j l => l.set j far) k (List.replicate n 0)
def startD (rows : List Int) (n m : Nat) : Dst := ⟨(startR rows n n).1, (startR rows n n).2, startC m m, List.replicate m 0⟩
theorem startR_len (rows : List Int) (n : Nat) : ∀ k, (startR rows n k).1.length = n ∧ (startR rows n k).2.length = n
  | 0 => by simp [startR, upto]
  | k + 1 => by
    have := startR_len rows n k
    simp only [startR, upto, startStep] at this ⊢
    refine ⟨?_, by simpa using this.2⟩
    split
    · simpa using this.1
    · exact this.1
theorem startC_len (n : Nat) : ∀ k, (startC n k).length = n
  | 0 => by simp [startC, upto]
  | k + 1 => by
    have := startC_len n k
    simp only [startC, upto] at this ⊢
    simpa using this

def relaxC (c : Int) (i j : Nat) (s : Dst) : Dst := if s.ra.getD i 0 < far ∧ s.ra.getD i 0 + c < s.ca.getD j 0 then { s with ca := s.ca.set j (s.ra.getD i 0 + c), cf := s.cf.set j (i : Int) } else s
def relaxR (c n : Int) (i j : Nat) (s : Dst) : Dst := if 0 < n ∧ s.ca.getD j 0 < far ∧ s.ca.getD j 0 - c < s.ra.getD i 0 then { s with ra := s.ra.set i (s.ca.getD j 0 - c), rf := s.rf.set i (j : Int) } else s
def relax (c p : List (List Int)) (i j : Nat) (s : Dst) : Dst := relaxR ((c.getD i []).getD j 0) ((p.getD i []).getD j 0) i j (relaxC ((c.getD i []).getD j 0) i j s)
def relaxRow (c p : List (List Int)) (i : Nat) (s : Dst) : Dst := upto (relax c p i) (c.getD i []).length s
def relaxAll (c p : List (List Int)) (s : Dst) : Dst := upto (relaxRow c p) c.length s
def distK (a b : List Int) (c p : List (List Int)) (k : Nat) : Dst := upto (fun _ => relaxAll c p) k (startD (leftV a b p).1 a.length b.length)
def dist (a b : List Int) (c p : List (List Int)) : Dst := distK a b c p (a.length + b.length)

/-- What holds of the lists of distances behind m steps. -/
structure DSt (R C : Nat) (m : Int) (s : Dst) : Prop where
  l1 : s.ra.length = R
  l2 : s.rf.length = R
  l3 : s.ca.length = C
  l4 : s.cf.length = C
  b1 : Bnd (-99 * m) far s.ra
  b2 : Bnd (-1) (C - 1) s.rf
  b3 : Bnd (-99 * m) far s.ca
  b4 : Bnd 0 (R - 1) s.cf
theorem DSt.mono {R C : Nat} {m m' : Int} {s : Dst} (h : DSt R C m s) (hm : m ≤ m') : DSt R C m' s := ⟨h.l1, h.l2, h.l3, h.l4, h.b1.mono (by omega), h.b2, h.b3.mono (by omega), h.b4⟩
theorem DSt.relaxC {R C : Nat} {m : Int} {s : Dst} (h : DSt R C m s) {x : Int} {i j : Nat} (hx : 0 ≤ x ∧ x ≤ 99) (hi : i < R) (hj : j < C) : DSt R C m (relaxC x i j s) := by
  unfold Go.OT.relaxC
  split
  · rename_i hc
    have h1 := h.b1.at (i := i) (by rw [h.l1]; exact hi)
    have h3 := h.b3.at (i := j) (by rw [h.l3]; exact hj)
    exact ⟨h.l1, h.l2, by simp [h.l3], by simp [h.l4], h.b1, h.b2, h.b3.set (by omega), h.b4.set (by omega)⟩
  · exact h
theorem DSt.relaxR {R C : Nat} {m : Int} {s : Dst} (h : DSt R C m s) {x n : Int} {i j : Nat} (hx : 0 ≤ x ∧ x ≤ 99) (hi : i < R) (hj : j < C) : DSt R C (m + 1) (relaxR x n i j s) := by
  unfold Go.OT.relaxR
  split
  · rename_i hc
    have h1 := h.b1.at (i := i) (by rw [h.l1]; exact hi)
    have h3 := h.b3.at (i := j) (by rw [h.l3]; exact hj)
    exact ⟨by simp [h.l1], by simp [h.l2], h.l3, h.l4, (h.b1.mono (by omega)).set (by omega), h.b2.set (by omega), h.b3.mono (by omega), h.b4⟩
  · exact h.mono (by omega)

theorem startR_bnd (rows : List Int) (n : Nat) {C : Nat} (hC : 1 ≤ C) : ∀ k, Bnd 0 far (startR rows n k).1 ∧ Bnd (-1) (C - 1) (startR rows n k).2
  | 0 => by
    refine ⟨fun x hx => ?_, fun x hx => ?_⟩
    · have h0 : x = 0 := (List.mem_replicate.1 hx).2
      unfold far; omega
    · have h0 : x = 0 := (List.mem_replicate.1 hx).2
      omega
  | k + 1 => by
    obtain ⟨h1, h2⟩ := startR_bnd rows n hC k
    have e : startR rows n (k + 1) = startStep rows k (startR rows n k) := rfl
    rw [e, startStep]
    refine ⟨?_, h2.set (by omega)⟩
    show Bnd 0 far (if _ then _ else _)
    split
    · exact h1.set (by unfold far; omega)
    · exact h1
theorem startC_bnd (n : Nat) : ∀ k, Bnd 0 far (startC n k)
  | 0 => fun x hx => by
    have h0 : x = 0 := (List.mem_replicate.1 hx).2
    unfold far; omega
  | k + 1 => (startC_bnd n k).set (by unfold far; omega)
theorem startD_st (rows : List Int) {R C : Nat} (hR : 1 ≤ R) (hC : 1 ≤ C) : DSt R C 0 (startD rows R C) :=
  ⟨(startR_len rows R R).1, (startR_len rows R R).2, startC_len C C, by simp [startD], (startR_bnd rows R hC R).1.mono (by omega), (startR_bnd rows R hC R).2, (startC_bnd C C).mono (by omega), fun x hx => by
    have h0 : x = 0 := (List.mem_replicate.1 hx).2
    omega⟩

section
variable {R C : Nat} {c : List (List Int)} (p : List (List Int))
theorem DSt.row (hc : Tb R C 0 99 c) {m : Int} {s : Dst} (h : DSt R C m s) {i : Nat} (hi : i < R) : ∀ j, j ≤ C → DSt R C (m + j) (upto (relax c p i) j s)
  | 0, _ => by simpa [upto] using h
  | j + 1, hj => by
    have h1 := DSt.row hc h hi j (by omega)
    have h2 := (h1.relaxC (hc.at' i j hi (by omega)) hi (by omega : j < C)).relaxR (n := (p.getD i []).getD j 0) (hc.at' i j hi (by omega)) hi (by omega : j < C)
    exact h2.mono (by omega)
theorem DSt.tab (hc : Tb R C 0 99 c) (hC : C ≤ 6) {m : Int} {s : Dst} (h : DSt R C m s) : ∀ i, i ≤ R → DSt R C (m + 6 * i) (upto (relaxRow c p) i s)
  | 0, _ => by simpa [upto] using h
  | i + 1, hi => by
    have h1 := DSt.row p hc (DSt.tab hc hC h i (by omega)) (i := i) (by omega) C (Nat.le_refl _)
    have e : upto (relaxRow c p) (i + 1) s = upto (relax c p i) C (upto (relaxRow c p) i s) := by
      show upto (relax c p i) (c.getD i []).length _ = _
      rw [hc.cols i (by omega)]
    rw [e]
    exact h1.mono (by omega)
end
theorem distK_st {a b : List Int} {c p : List (List Int)} (hc : Tb a.length b.length 0 99 c) (hp : Shp a b p) : ∀ k : Nat, DSt a.length b.length (36 * (k : Int)) (distK a b c p k)
  | 0 => startD_st _ hp.a5.1 hp.b5.1
  | k + 1 => by
    have h1 := DSt.tab p hc hp.b5.2 (distK_st hc hp k) a.length (Nat.le_refl _)
    have e : distK a b c p (k + 1) = upto (relaxRow c p) a.length (distK a b c p k) := by
      show upto (relaxRow c p) c.length _ = _
      rw [hc.rows]
      rfl
    rw [e]
    have := hp.a5
    exact h1.mono (by omega)

/-! ### The best column, and the chain behind it -/
def bestCol (cols ca : List Int) : Nat → Int
  | 0 => -1
  | j + 1 => if 0 < cols.getD j 0 ∧ ca.getD j 0 < far ∧ (bestCol cols ca j < 0 ∨ ca.getD j 0 < ca.getD (bestCol cols ca j).toNat 0) then (j : Int) else bestCol cols ca j

def addAt (p : List (List Int)) (i j : Nat) (d : Int) : List (List Int) := p.set i ((p.getD i []).set j ((p.getD i []).getD j 0 + d))

/-- The plan behind one step of the chain. -/
def chainStep (rf cf : List Int) (j : Int) (p : List (List Int)) : List (List Int) :=
  let i := (cf.getD j.toNat 0).toNat
  let j' := rf.getD i 0
  if 0 ≤ j' then addAt (addAt p i j.toNat 1) i j'.toNat (-1) else addAt p i j.toNat 1
def chainNext (rf cf : List Int) (j : Int) : Int := rf.getD (cf.getD j.toNat 0).toNat 0

/-- The chain is followed back, at most so many columns. -/
def follow (rf cf : List Int) : Nat → Int → List (List Int) → Option (List (List Int))
  | 0, j, p => if j < 0 then some p else none
  | n + 1, j, p => if j < 0 then some p else follow rf cf n (chainNext rf cf j) (chainStep rf cf j p)

def bestV (a b : List Int) (c p : List (List Int)) : Int := bestCol (leftV a b p).2 (dist a b c p).ca b.length
def nextP (a b : List Int) (c p : List (List Int)) : Option (List (List Int)) := if bestV a b c p < 0 then some p else follow (dist a b c p).rf (dist a b c p).cf (a.length + b.length) (bestV a b c p) p
def nextN (a b : List Int) (c p : List (List Int)) : Int := if bestV a b c p < 0 then 0 else (dist a b c p).ca.getD (bestV a b c p).toNat 0
end Go.OT

namespace Go.OT
open Go.BF
set_option linter.unusedSimpArgs false
set_option linter.unusedVariables false

/-! ### The edges of a plan -/
def edgeAt (R : Nat) (c p : Nat → Nat → Int) (i j : Nat) : List Ed := ⟨i, R + j, c i j⟩ :: (if 0 < p i j then [⟨R + j, i, - c i j⟩] else [])
def edgesRow (R : Nat) (c p : Nat → Nat → Int) (i : Nat) : Nat → List Ed
  | 0 => []
  | j + 1 => edgesRow R c p i j ++ edgeAt R c p i j
def edgesTo (R C : Nat) (c p : Nat → Nat → Int) : Nat → List Ed
  | 0 => []
  | i + 1 => edgesTo R C c p i ++ edgesRow R c p i C

section
variable {R C : Nat} {c p : Nat → Nat → Int}
def IsEdge (R C : Nat) (c p : Nat → Nat → Int) (e : Ed) : Prop := ∃ i j, i < R ∧ j < C ∧ (e = ⟨i, R + j, c i j⟩ ∨ 0 < p i j ∧ e = ⟨R + j, i, - c i j⟩)
theorem mem_edgeAt {e : Ed} {i j : Nat} : e ∈ edgeAt R c p i j ↔ e = ⟨i, R + j, c i j⟩ ∨ 0 < p i j ∧ e = ⟨R + j, i, - c i j⟩ := by
  unfold edgeAt
  by_cases h : 0 < p i j
  · simp [h]
  · simp [h]
theorem mem_edgesRow {e : Ed} {i : Nat} : ∀ (n : Nat), e ∈ edgesRow R c p i n ↔ ∃ j, j < n ∧ e ∈ edgeAt R c p i j
  | 0 => by simp [edgesRow]
  | n + 1 => by
    simp only [edgesRow, List.mem_append, mem_edgesRow n]
    constructor
    · rintro (⟨j, hj, h⟩ | h)
      · exact ⟨j, by omega, h⟩
      · exact ⟨n, by omega, h⟩
    · rintro ⟨j, hj, h⟩
      rcases Nat.lt_or_ge j n with h2 | h2
      · exact .inl ⟨j, h2, h⟩
      · obtain rfl : j = n := by omega
        exact .inr h
theorem mem_edgesTo {e : Ed} : ∀ (n : Nat), e ∈ edgesTo R C c p n ↔ ∃ i j, i < n ∧ j < C ∧ e ∈ edgeAt R c p i j
  | 0 => by simp [edgesTo]
  | n + 1 => by
    simp only [edgesTo, List.mem_append, mem_edgesTo n, mem_edgesRow]
    constructor
    · rintro (⟨i, j, hi, hj, h⟩ | ⟨j, hj, h⟩)
      · exact ⟨i, j, by omega, hj, h⟩
      · exact ⟨n, j, by omega, hj, h⟩
    · rintro ⟨i, j, hi, hj, h⟩
      rcases Nat.lt_or_ge i n with h2 | h2
      · exact .inl ⟨i, j, h2, hj, h⟩
      · obtain rfl : i = n := by omega
        exact .inr ⟨j, hj, h⟩
theorem mem_edges {e : Ed} : e ∈ edgesTo R C c p R ↔ IsEdge R C c p e := by
  rw [mem_edgesTo]
  constructor
  · rintro ⟨i, j, hi, hj, h⟩; exact ⟨i, j, hi, hj, mem_edgeAt.1 h⟩
  · rintro ⟨i, j, hi, hj, h⟩; exact ⟨i, j, hi, hj, mem_edgeAt.2 h⟩
end

/-! ### The lists as distances in a graph -/
def toSt (R C : Nat) (s : Dst) : St :=
  ⟨fun v => if v < R then s.ra.getD v 0 else if v < R + C then s.ca.getD (v - R) 0 else far,
   fun v => if v < R then (if s.rf.getD v 0 < 0 then -1 else R + s.rf.getD v 0) else if v < R + C then s.cf.getD (v - R) 0 else -2⟩

section
variable {R C : Nat} {s : Dst}
theorem toSt_row {i : Nat} (hi : i < R) : (toSt R C s).d i = s.ra.getD i 0 := if_pos hi
theorem toSt_col {j : Nat} (hj : j < C) : (toSt R C s).d (R + j) = s.ca.getD j 0 := by
  show (if R + j < R then _ else if R + j < R + C then _ else _) = _
  rw [if_neg (by omega), if_pos (by omega), Nat.add_sub_cancel_left]
theorem toSt_rf {i : Nat} (hi : i < R) : (toSt R C s).fr i = if s.rf.getD i 0 < 0 then -1 else R + s.rf.getD i 0 := if_pos hi
theorem toSt_cf {j : Nat} (hj : j < C) : (toSt R C s).fr (R + j) = s.cf.getD j 0 := by
  show (if R + j < R then _ else if R + j < R + C then _ else _) = _
  rw [if_neg (by omega), if_pos (by omega), Nat.add_sub_cancel_left]
theorem toSt_out {v : Nat} (hv : R + C ≤ v) : (toSt R C s).d v = far := by
  show (if v < R then _ else if v < R + C then _ else far) = far
  rw [if_neg (by omega), if_neg (by omega)]

theorem relaxC_sim {m : Int} (h : DSt R C m s) {i j : Nat} (hi : i < R) (hj : j < C) (x : Int) : toSt R C (relaxC x i j s) = rlx far (toSt R C s) ⟨i, R + j, x⟩ := by
  unfold relaxC rlx
  dsimp only
  rw [toSt_row hi, toSt_col hj]
  by_cases hc : s.ra.getD i 0 < far ∧ s.ra.getD i 0 + x < s.ca.getD j 0
  · rw [if_pos hc, if_pos hc]
    unfold toSt
    dsimp only
    congr 1
    · funext v
      unfold upF
      dsimp only
      by_cases hv : v = R + j
      · subst hv
        rw [if_neg (by omega), if_pos (by omega), if_pos rfl, Nat.add_sub_cancel_left, ga_set (by rw [h.l3]; exact hj), if_pos rfl]
      · rw [if_neg hv]
        by_cases h1 : v < R
        · rw [if_pos h1, if_pos h1]
        · rw [if_neg h1, if_neg h1, ga_set (by rw [h.l3]; exact hj), if_neg (show ¬ v - R = j by omega)]
    · funext v
      unfold upF
      dsimp only
      by_cases hv : v = R + j
      · subst hv
        rw [if_neg (by omega), if_pos (by omega), if_pos rfl, Nat.add_sub_cancel_left, ga_set (by rw [h.l4]; exact hj), if_pos rfl]
      · rw [if_neg hv]
        by_cases h1 : v < R
        · rw [if_pos h1, if_pos h1]
        · rw [if_neg h1, if_neg h1, ga_set (by rw [h.l4]; exact hj), if_neg (show ¬ v - R = j by omega)]
  · rw [if_neg hc, if_neg hc]

theorem relaxR_sim {m : Int} (h : DSt R C m s) {i j : Nat} (hi : i < R) (hj : j < C) (x n : Int) : toSt R C (relaxR x n i j s) = if 0 < n then rlx far (toSt R C s) ⟨R + j, i, - x⟩ else toSt R C s := by
  unfold relaxR rlx
  dsimp only
  rw [toSt_row hi, toSt_col hj]
  by_cases hn : 0 < n
  · rw [if_pos hn]
    by_cases hc : s.ca.getD j 0 < far ∧ s.ca.getD j 0 - x < s.ra.getD i 0
    · rw [if_pos ⟨hn, hc⟩, if_pos (by omega)]
      unfold toSt
      dsimp only
      congr 1
      · funext v
        unfold upF
        dsimp only
        by_cases hv : v = i
        · subst hv
          rw [if_pos hi, if_pos rfl, ga_set (by rw [h.l1]; exact hi), if_pos rfl]; omega
        · rw [if_neg hv, ga_set (by rw [h.l1]; exact hi), if_neg hv]
      · funext v
        unfold upF
        dsimp only
        by_cases hv : v = i
        · subst hv
          rw [if_pos hi, if_pos rfl, ga_set (by rw [h.l2]; exact hi), if_pos rfl, if_neg (by omega)]; omega
        · rw [if_neg hv, ga_set (by rw [h.l2]; exact hi), if_neg hv]
    · rw [if_neg (fun h => hc h.2), if_neg (by omega)]
  · rw [if_neg hn, if_neg (fun h => hn h.1)]

variable {c p : List (List Int)}
theorem relax_sim {m : Int} (hc : Tb R C 0 99 c) (h : DSt R C m s) {i j : Nat} (hi : i < R) (hj : j < C) : toSt R C (relax c p i j s) = (edgeAt R (gt c) (gt p) i j).foldl (rlx far) (toSt R C s) := by
  unfold relax edgeAt
  rw [relaxR_sim (h.relaxC (hc.at' i j hi hj) hi hj) hi hj, relaxC_sim h hi hj, List.foldl_cons]
  show (if 0 < gt p i j then _ else _) = _
  by_cases hp : 0 < gt p i j
  · rw [if_pos hp, if_pos hp]; rfl
  · rw [if_neg hp, if_neg hp]; rfl

theorem relaxRow_sim {m : Int} (hc : Tb R C 0 99 c) (h : DSt R C m s) {i : Nat} (hi : i < R) : ∀ n, n ≤ C → toSt R C (upto (relax c p i) n s) = (edgesRow R (gt c) (gt p) i n).foldl (rlx far) (toSt R C s)
  | 0, _ => rfl
  | n + 1, hn => by
    show toSt R C (relax c p i n (upto (relax c p i) n s)) = (edgesRow R (gt c) (gt p) i n ++ edgeAt R (gt c) (gt p) i n).foldl (rlx far) (toSt R C s)
    rw [List.foldl_append, ← relaxRow_sim hc h hi n (by omega)]
    exact relax_sim hc (DSt.row p hc h hi n (by omega)) hi (by omega)
theorem relaxTo_sim {m : Int} (hc : Tb R C 0 99 c) (hC : C ≤ 6) (h : DSt R C m s) : ∀ n, n ≤ R → toSt R C (upto (relaxRow c p) n s) = (edgesTo R C (gt c) (gt p) n).foldl (rlx far) (toSt R C s)
  | 0, _ => rfl
  | n + 1, hn => by
    show toSt R C (upto (relax c p n) (c.getD n []).length (upto (relaxRow c p) n s)) = (edgesTo R C (gt c) (gt p) n ++ edgesRow R (gt c) (gt p) n C).foldl (rlx far) (toSt R C s)
    rw [List.foldl_append, ← relaxTo_sim hc hC h n (by omega), hc.cols n (by omega)]
    exact relaxRow_sim hc (DSt.tab p hc hC h n (by omega)) (by omega) C (Nat.le_refl _)
end

theorem distK_sim {a b : List Int} {c p : List (List Int)} (hc : Tb a.length b.length 0 99 c) (hp : Shp a b p) : ∀ k : Nat, toSt a.length b.length (distK a b c p k) = sweeps far (edgesTo a.length b.length (gt c) (gt p) a.length) k (toSt a.length b.length (startD (leftV a b p).1 a.length b.length))
  | 0 => rfl
  | k + 1 => by
    show toSt a.length b.length (upto (relaxRow c p) c.length (distK a b c p k)) = sweep far _ (sweeps far _ k _)
    rw [hc.rows, relaxTo_sim hc hp.b5.2 (distK_st hc hp k) a.length (Nat.le_refl _), distK_sim hc hp k]
    rfl

/-! ### More of relaxing -/
theorem low_foldl {F : Int} {pot : Nat → Int} : ∀ (l : List Ed) (s : St), (∀ e ∈ l, pot e.v ≤ pot e.u + e.c) → (∀ v, pot v ≤ s.d v) → ∀ v, pot v ≤ (l.foldl (rlx F) s).d v
  | [], _, _, h => h
  | e :: l, s, hl, h => by
    refine low_foldl l (rlx F s e) (fun e' he' => hl e' (List.mem_cons_of_mem _ he')) fun v => ?_
    have h1 := hl e (List.mem_cons_self ..)
    unfold rlx
    split
    · simp only [upF]
      split
      · rename_i hv
        subst hv
        have := h e.u; omega
      · exact h v
    · exact h v
theorem low_sweeps {F : Int} {pot : Nat → Int} {es : List Ed} {s : St} (hp : ∀ e ∈ es, pot e.v ≤ pot e.u + e.c) (h : ∀ v, pot v ≤ s.d v) : ∀ k v, pot v ≤ (sweeps F es k s).d v
  | 0 => h
  | k + 1 => low_foldl es _ hp (low_sweeps hp h k)
theorem root_foldl {F : Int} {d0 : Nat → Int} : ∀ (l : List Ed) (s : St), (∀ v, s.fr v = -1 → s.d v = d0 v) → ∀ v, (l.foldl (rlx F) s).fr v = -1 → (l.foldl (rlx F) s).d v = d0 v
  | [], _, h => h
  | e :: l, s, h => by
    refine root_foldl l (rlx F s e) fun v hv => ?_
    unfold rlx at hv ⊢
    split
    · rename_i hc
      rw [if_pos hc] at hv
      simp only [upF] at hv ⊢
      by_cases he : v = e.v
      · rw [if_pos he] at hv; omega
      · rw [if_neg he] at hv ⊢; exact h v hv
    · rename_i hc
      rw [if_neg hc] at hv
      exact h v hv
theorem root_sweeps {F : Int} {es : List Ed} {s : St} : ∀ k v, (sweeps F es k s).fr v = -1 → (sweeps F es k s).d v = s.d v
  | 0 => fun _ _ => rfl
  | k + 1 => root_foldl es _ (root_sweeps k)
theorem le_sweeps {F : Int} {es : List Ed} {s : St} : ∀ k v, (sweeps F es k s).d v ≤ s.d v
  | 0, v => Int.le_refl _
  | k + 1, v => Int.le_trans (foldl_le F es _ v) (le_sweeps k v)

/-- Every number up to a chain's length is the length of a chain. -/
theorem Chain.at {F : Int} {s : St} {k v : Nat} (h : BF.Chain F s k v) : ∀ i, i ≤ k → ∃ u, BF.Chain F s i u := by
  induction h with
  | zero h1 h2 => intro i hi; obtain rfl : i = 0 := by omega
                  exact ⟨_, .zero h1 h2⟩
  | succ h1 h2 h3 ih =>
    rename_i k v u
    intro i hi
    rcases Nat.lt_or_ge i (k + 1) with h4 | h4
    · exact ih i (by omega)
    · obtain rfl : i = k + 1 := by omega
      exact ⟨_, .succ h1 h2 h3⟩
theorem Chain.reached {F : Int} {s : St} {k v : Nat} (h : BF.Chain F s k v) : s.d v < F := by
  cases h <;> assumption
theorem Chain.short {F : Int} {s : St} {N k v : Nat} (hN : ∀ v, s.d v < F → v < N) (h : BF.Chain F s k v) : k + 1 ≤ N := by
  have h1 : ∀ i, ∃ u, i ≤ k → BF.Chain F s i u := fun i => by
    by_cases hi : i ≤ k
    · obtain ⟨u, hu⟩ := Chain.at h i hi
      exact ⟨u, fun _ => hu⟩
    · exact ⟨0, fun h => absurd h hi⟩
  refine pigeon N (k + 1) (fun i => Classical.choose (h1 i)) (fun i hi => hN _ (Chain.reached (Classical.choose_spec (h1 i) (by omega)))) fun i j hij hj he => ?_
  have h2 := Classical.choose_spec (h1 i) (by omega)
  have h3 := Classical.choose_spec (h1 j) (by omega)
  have h4 : Classical.choose (h1 i) = Classical.choose (h1 j) := he
  rw [h4] at h2
  have := BF.Chain.len h2 _ h3
  omega

/-! ### Where distances start -/
theorem startR_get (rows : List Int) (n : Nat) : ∀ k, k ≤ n → ∀ i, (startR rows n k).1.getD i 0 = (if i < k ∧ rows.getD i 0 = 0 then far else 0) ∧ (startR rows n k).2.getD i 0 = if i < k then -1 else 0
  | 0, _, i => by
    have e : ∀ m, (List.replicate m (0 : Int)).getD i 0 = 0 := fun m => by
      rw [List.getD_eq_getElem?_getD, List.getElem?_replicate]; split <;> rfl
    rw [if_neg (by omega), if_neg (by omega)]
    exact ⟨e n, e n⟩
  | k + 1, hk, i => by
    obtain ⟨h1, h2⟩ := startR_get rows n k (by omega) i
    obtain ⟨l1, l2⟩ := startR_len rows n k
    have e : startR rows n (k + 1) = startStep rows k (startR rows n k) := rfl
    rw [e, startStep]
    dsimp only
    constructor
    · by_cases hz : rows.getD k 0 = 0
      · rw [if_pos hz, ga_set (by omega)]
        by_cases hi : i = k
        · subst hi
          rw [if_pos rfl, if_pos ⟨by omega, hz⟩]
        · rw [if_neg hi, h1]
          by_cases h3 : i < k ∧ rows.getD i 0 = 0
          · rw [if_pos h3, if_pos ⟨by omega, h3.2⟩]
          · rw [if_neg h3, if_neg (fun h => h3 ⟨by omega, h.2⟩)]
      · rw [if_neg hz, h1]
        by_cases h3 : i < k ∧ rows.getD i 0 = 0
        · rw [if_pos h3, if_pos ⟨by omega, h3.2⟩]
        · rw [if_neg h3, if_neg (fun h => h3 ⟨by have : i ≠ k := fun e => hz (e ▸ h.2); omega, h.2⟩)]
    · rw [ga_set (by omega), h2]
      by_cases hi : i = k
      · rw [if_pos hi, if_pos (by omega)]
      · rw [if_neg hi]
        by_cases h3 : i < k
        · rw [if_pos h3, if_pos (by omega)]
        · rw [if_neg h3, if_neg (by omega)]
theorem startC_get (n : Nat) : ∀ k, k ≤ n → ∀ j, j < k → (startC n k).getD j 0 = far
  | 0, _, j, hj => by omega
  | k + 1, hk, j, hj => by
    show ((startC n k).set k far).getD j 0 = far
    rw [ga_set (by rw [startC_len]; omega)]
    split
    · rfl
    · exact startC_get n k (by omega) j (by omega)

/-- What the sweeps come to. -/
structure DistOK (R C : Nat) (a : Nat → Int) (c p : Nat → Nat → Int) (r s : Nat → Int) (x : Dst) : Prop where
  rest : ∀ i j, i < R → j < C → x.ra.getD i 0 < far → x.ca.getD j 0 ≤ x.ra.getD i 0 + c i j
  back : ∀ i j, i < R → j < C → 0 < p i j → x.ca.getD j 0 < far → x.ra.getD i 0 ≤ x.ca.getD j 0 - c i j
  rlow : ∀ i, i < R → r i ≤ x.ra.getD i 0
  slow : ∀ j, j < C → s j ≤ x.ca.getD j 0
  left : ∀ i, i < R → rowS C p i < a i → x.ra.getD i 0 = 0
  way : BF.Way far (edgesTo R C c p R) (toSt R C x)
  root : ∀ i, i < R → x.ra.getD i 0 < far → (toSt R C x).fr i = -1 → rowS C p i < a i ∧ x.ra.getD i 0 = 0

section
variable {a b : List Int} {c p : List (List Int)} {r s : Nat → Int} {V : Int}
theorem dist_ok (hc : Tb a.length b.length 0 99 c) (hp : Shp a b p) (hq : IsPart a.length b.length (ga a) (ga b) (gt p)) (hg : Good a.length b.length (ga a) (ga b) (gt c) (gt p) r s V) (hr : ∀ i, i < a.length → r i ≤ 99) (hs : ∀ j, j < b.length → s j ≤ 99) :
    DistOK a.length b.length (ga a) (gt c) (gt p) r s (dist a b c p) := by
  have sim := distK_sim hc hp (a.length + b.length)
  change toSt a.length b.length (dist a b c p) = _ at sim
  generalize hx : dist a b c p = x at sim ⊢
  have hfar : far = 1099511627776 := rfl
  -- the start
  let s0 := toSt a.length b.length (startD (leftV a b p).1 a.length b.length)
  change toSt a.length b.length x = sweeps far (edgesTo a.length b.length (gt c) (gt p) a.length) (a.length + b.length) s0 at sim
  have h0r : ∀ i, i < a.length → s0.d i = if rowS b.length (gt p) i < ga a i then 0 else far := fun i hi => by
    show (toSt _ _ _).d i = _
    rw [toSt_row hi]
    show (startR (leftV a b p).1 a.length a.length).1.getD i 0 = _
    rw [(startR_get (leftV a b p).1 a.length a.length (Nat.le_refl _) i).1, leftV_row hp hi]
    have := hq.row i hi
    by_cases h1 : rowS b.length (gt p) i < ga a i
    · rw [if_pos h1, if_neg (by omega)]
    · rw [if_neg h1, if_pos (by omega)]
  have h0c : ∀ j, j < b.length → s0.d (a.length + j) = far := fun j hj => by
    show (toSt _ _ _).d _ = _
    rw [toSt_col hj]
    exact startC_get b.length b.length (Nat.le_refl _) j hj
  have h0f : ∀ i, i < a.length → s0.fr i = -1 := fun i hi => by
    show (toSt _ _ _).fr i = _
    rw [toSt_rf hi]
    show (if (startR (leftV a b p).1 a.length a.length).2.getD i 0 < 0 then _ else _) = _
    rw [(startR_get (leftV a b p).1 a.length a.length (Nat.le_refl _) i).2, if_pos hi]
    rfl
  have h0o : ∀ v, a.length + b.length ≤ v → s0.d v = far := fun v hv => toSt_out hv
  have hsplit : ∀ v, v < a.length ∨ (∃ j, j < b.length ∧ v = a.length + j) ∨ a.length + b.length ≤ v := fun v => by
    rcases Nat.lt_or_ge v a.length with h | h
    · exact .inl h
    · rcases Nat.lt_or_ge v (a.length + b.length) with h2 | h2
      · exact .inr (.inl ⟨v - a.length, by omega, by omega⟩)
      · exact .inr (.inr h2)
  have h0F : ∀ v, s0.d v ≤ far := fun v => by
    rcases hsplit v with h | ⟨j, hj, rfl⟩ | h
    · rw [h0r v h]; split <;> omega
    · rw [h0c j hj]; omega
    · rw [h0o v h]; omega
  -- the prices
  let pot : Nat → Int := fun v => if v < a.length then r v else if v < a.length + b.length then s (v - a.length) else 0
  have potR : ∀ i, i < a.length → pot i = r i := fun i hi => if_pos hi
  have potC : ∀ j, j < b.length → pot (a.length + j) = s j := fun j hj => by
    show (if _ then _ else if _ then _ else _) = _
    rw [if_neg (by omega), if_pos (by omega), Nat.add_sub_cancel_left]
  have hpot : ∀ e ∈ edgesTo a.length b.length (gt c) (gt p) a.length, pot e.v ≤ pot e.u + e.c := fun e he => by
    obtain ⟨i, j, hi, hj, h | ⟨h0, h⟩⟩ := mem_edges.1 he
    · subst h
      dsimp only
      rw [potR i hi, potC j hj]
      exact hg.hold i j hi hj
    · subst h
      dsimp only
      rw [potR i hi, potC j hj]
      have := hg.tight i j hi hj h0
      omega
  have hN : ∀ e ∈ edgesTo a.length b.length (gt c) (gt p) a.length, e.u < a.length + b.length ∧ e.v < a.length + b.length := fun e he => by
    obtain ⟨i, j, hi, hj, h | ⟨h0, h⟩⟩ := mem_edges.1 he <;> subst h <;> dsimp only <;> omega
  have rest := rest_sweeps (F := far) s0 hpot hN
  have w0 : BF.Way far (edgesTo a.length b.length (gt c) (gt p) a.length) s0 := by
    refine ⟨fun v hv => ?_, fun v u hv hu => ?_⟩
    · rcases hsplit v with h | ⟨j, hj, rfl⟩ | h
      · exact ⟨0, .zero hv (h0f v h)⟩
      · rw [h0c j hj] at hv; omega
      · rw [h0o v h] at hv; omega
    · rcases hsplit v with h | ⟨j, hj, rfl⟩ | h
      · rw [h0f v h] at hu; omega
      · rw [h0c j hj] at hv; omega
      · rw [h0o v h] at hv; omega
  have way := (BF.Way.sweeps hpot s0 w0 h0F (a.length + b.length)).1
  have low : ∀ v, pot v ≤ (sweeps far (edgesTo a.length b.length (gt c) (gt p) a.length) (a.length + b.length) s0).d v := low_sweeps hpot (fun v => by
    rcases hsplit v with h | ⟨j, hj, rfl⟩ | h
    · rw [h0r v h, potR v h]
      split
      · rename_i h1
        rw [hg.rleft v h h1]; omega
      · have := hr v h; omega
    · rw [h0c j hj, potC j hj]; have := hs j hj; omega
    · rw [h0o v h]
      show (if _ then _ else if _ then _ else _) ≤ _
      rw [if_neg (by omega), if_neg (by omega)]; omega) _
  have le := fun v => le_sweeps (F := far) (es := edgesTo a.length b.length (gt c) (gt p) a.length) (s := s0) (a.length + b.length) v
  have root := fun v => root_sweeps (F := far) (es := edgesTo a.length b.length (gt c) (gt p) a.length) (s := s0) (a.length + b.length) v
  rw [← sim] at rest way low le root
  have rlow : ∀ i, i < a.length → r i ≤ x.ra.getD i 0 := fun i hi => by
    have := low i
    rwa [potR i hi, toSt_row hi] at this
  refine ⟨fun i j hi hj h => ?_, fun i j hi hj h0 h => ?_, rlow, fun j hj => ?_, fun i hi h => ?_, way, fun i hi h hf => ?_⟩
  · have := rest ⟨i, a.length + j, gt c i j⟩ (mem_edges.2 ⟨i, j, hi, hj, .inl rfl⟩)
    dsimp only at this
    rw [toSt_row hi, toSt_col hj] at this
    exact this h
  · have := rest ⟨a.length + j, i, - gt c i j⟩ (mem_edges.2 ⟨i, j, hi, hj, .inr ⟨h0, rfl⟩⟩)
    dsimp only at this
    rw [toSt_row hi, toSt_col hj] at this
    have := this h
    omega
  · have := low (a.length + j)
    rwa [potC j hj, toSt_col hj] at this
  · have h1 := le i
    rw [toSt_row hi, h0r i hi, if_pos h] at h1
    have h2 := rlow i hi
    have h3 := hg.rnn i hi
    omega
  · have h1 := root i hf
    rw [toSt_row hi, h0r i hi] at h1
    by_cases h2 : rowS b.length (gt p) i < ga a i
    · rw [if_pos h2] at h1
      exact ⟨h2, h1⟩
    · rw [if_neg h2] at h1
      omega
end
end Go.OT

namespace Go.OT
open Go.BF
set_option linter.unusedSimpArgs false
set_option linter.unusedVariables false

/-- A table of this size. -/
structure Sz (R C : Nat) (q : List (List Int)) : Prop where
  rows : q.length = R
  cols : ∀ i, i < R → (q.getD i []).length = C
theorem Tb.sz {R C : Nat} {lo hi : Int} {p : List (List Int)} (h : Tb R C lo hi p) : Sz R C p := ⟨h.rows, h.cols⟩

def bump (f : Nat → Nat → Int) (i j : Nat) (d : Int) : Nat → Nat → Int := fun i' j' => f i' j' + if i' = i ∧ j' = j then d else 0

section
variable {R C : Nat} {q : List (List Int)} {i j : Nat} {d : Int}
theorem Sz.add (h : Sz R C q) (hi : i < R) : Sz R C (addAt q i j d) := by
  refine ⟨by simp [addAt, h.rows], fun k hk => ?_⟩
  unfold addAt
  rw [getD_set]
  split
  · rw [List.length_set]; exact h.cols i hi
  · exact h.cols k hk
theorem gt_addAt (h : Sz R C q) (hi : i < R) (hj : j < C) : gt (addAt q i j d) = bump (gt q) i j d := by
  funext i' j'
  unfold gt addAt bump
  dsimp only
  rw [getD_set]
  by_cases h1 : i' = i
  · subst h1
    rw [if_pos ⟨rfl, by rw [h.rows]; exact hi⟩, ga_set (by rw [h.cols i' hi]; exact hj)]
    by_cases h2 : j' = j
    · subst h2
      rw [if_pos rfl, if_pos ⟨rfl, rfl⟩]
    · rw [if_neg h2, if_neg (fun h => h2 h.2)]; omega
  · rw [if_neg (fun h => h1 h.1.symm), if_neg (fun h => h1 h.1)]; omega

theorem rowS_bump (f : Nat → Nat → Int) (hj : j < C) (k : Nat) : rowS C (bump f i j d) k = rowS C f k + if k = i then d else 0 := by
  unfold rowS bump
  rw [sg_add]
  congr 1
  by_cases hk : k = i
  · subst hk
    rw [if_pos rfl]
    refine Eq.trans (sg_congr C fun j' _ => ?_) ((sg_one d j C).trans (if_pos hj))
    by_cases h : j' = j
    · rw [if_pos ⟨rfl, h⟩, if_pos h]
    · rw [if_neg (fun h2 => h h2.2), if_neg h]
  · rw [if_neg hk]
    refine Eq.trans (sg_congr C fun j' _ => ?_) (sg_zero C)
    exact if_neg (fun h => hk h.1)
theorem colS_bump (f : Nat → Nat → Int) (hi : i < R) (k : Nat) : colS R (bump f i j d) k = colS R f k + if k = j then d else 0 := by
  unfold colS bump
  rw [sg_add]
  congr 1
  by_cases hk : k = j
  · subst hk
    rw [if_pos rfl]
    refine Eq.trans (sg_congr R fun i' _ => ?_) ((sg_one d i R).trans (if_pos hi))
    by_cases h : i' = i
    · rw [if_pos ⟨h, rfl⟩, if_pos h]
    · rw [if_neg (fun h2 => h h2.1), if_neg h]
  · rw [if_neg hk]
    refine Eq.trans (sg_congr R fun i' _ => ?_) (sg_zero R)
    exact if_neg (fun h => hk h.2)
theorem cst_bump (c f : Nat → Nat → Int) (hi : i < R) (hj : j < C) : cst R C c (bump f i j d) = cst R C c f + c i j * d := by
  unfold cst bump
  have e : c i j * d = sg R (fun i' => if i' = i then c i j * d else 0) := ((sg_one (c i j * d) i R).trans (if_pos hi)).symm
  rw [e, ← sg_add]
  refine sg_congr R fun i' _ => ?_
  by_cases h : i' = i
  · subst h
    have e2 : c i' j * d = sg C (fun j' => if j' = j then c i' j * d else 0) := ((sg_one (c i' j * d) j C).trans (if_pos hj)).symm
    rw [if_pos rfl, e2, ← sg_add]
    refine sg_congr C fun j' _ => ?_
    by_cases h2 : j' = j
    · subst h2
      rw [if_pos ⟨rfl, rfl⟩, if_pos rfl, Int.mul_add]
    · rw [if_neg (fun h3 => h2 h3.2), if_neg h2, Int.add_zero, Int.add_zero]
  · rw [if_neg h, Int.add_zero]
    exact sg_congr C fun j' _ => by rw [if_neg (fun h3 => h h3.1), Int.add_zero]
end

/-- What following a chain from a column makes of a table. -/
structure Fol (R C : Nat) (c : Nat → Nat → Int) (r s : Nat → Int) (x : Dst) (δ : Int) (j : Nat) (q q' : List (List Int)) : Prop where
  sz : Sz R C q'
  root : ∃ i0, i0 < R ∧ (toSt R C x).fr i0 = -1 ∧ x.ra.getD i0 0 < far ∧ (∀ i, i < R → rowS C (gt q') i = rowS C (gt q) i + if i = i0 then 1 else 0) ∧ cst R C c (gt q') = cst R C c (gt q) + (x.ca.getD j 0 - x.ra.getD i0 0)
  col : ∀ j', j' < C → colS R (gt q') j' = colS R (gt q) j' + if j' = j then 1 else 0
  nn : ∀ i j, i < R → j < C → 0 ≤ gt q' i j
  link : ∀ i j', i < R → j' < C → 0 < gt q' i j' → 0 < gt q i j' ∨ (x.ca.getD j' 0 = x.ra.getD i 0 + c i j' ∧ x.ra.getD i 0 - r i ≤ δ ∧ x.ca.getD j' 0 - s j' ≤ δ)

theorem follow_neg (rf cf : List Int) {j : Int} (hj : j < 0) (p : List (List Int)) : ∀ n, follow rf cf n j p = some p
  | 0 => if_pos hj
  | n + 1 => if_pos hj

section
variable {R C : Nat} {a : Nat → Int} {c p : Nat → Nat → Int} {r s : Nat → Int} {x : Dst} {δ : Int}
theorem follow_ok (hd : DistOK R C a c p r s x) (hcf : ∀ j, j < C → 0 ≤ x.cf.getD j 0) (hold : ∀ i j, i < R → j < C → s j ≤ r i + c i j) (tight : ∀ i j, i < R → j < C → 0 < p i j → s j = r i + c i j) :
    ∀ (n k j : Nat) (q : List (List Int)), BF.Chain far (toSt R C x) k (R + j) → j < C → k ≤ n → Sz R C q → (∀ i j, i < R → j < C → 0 ≤ gt q i j) →
      (∀ k' i (j' : Nat), k' < k → i < R → BF.Chain far (toSt R C x) k' i → x.rf.getD i 0 = (j' : Int) → 0 < gt q i j') → x.ca.getD j 0 - s j ≤ δ →
      ∃ q', follow x.rf x.cf n (j : Int) q = some q' ∧ Fol R C c r s x δ j q q'
  | n, k, j, q, hch, hj, hkn, hsz, hnn, hpos, hδ => by
    have hch' := hch
    cases hch with
    | zero h1 h2 =>
      rw [toSt_cf hj] at h2
      have := hcf j hj
      omega
    | succ h1 h2 h3 =>
      rename_i k1 u
      obtain ⟨e, he, e1, e2, e3, e4⟩ := hd.way.tight (R + j) u h1 h2
      obtain ⟨i, j0, hi, hj0, h | ⟨h0, h⟩⟩ := mem_edges.1 he
      case inr => subst h; dsimp only at e2; omega
      subst h
      dsimp only at e1 e2 e4
      obtain rfl : j0 = j := by omega
      subst e1
      rw [toSt_row hi] at e3 e4
      rw [toSt_col hj] at e4
      rw [toSt_cf hj] at h2
      have hE : x.ca.getD j0 0 = x.ra.getD i 0 + c i j0 := by
        have := hd.rest i j0 hi hj e3; omega
      have hDδ : x.ra.getD i 0 - r i ≤ δ := by have := hold i j0 hi hj; omega
      have hnxt : chainNext x.rf x.cf (j0 : Int) = x.rf.getD i 0 := by
        unfold chainNext
        rw [Int.toNat_natCast, h2, Int.toNat_natCast]
      obtain ⟨n, rfl⟩ : ∃ m, n = m + 1 := ⟨n - 1, by omega⟩
      have hfol : follow x.rf x.cf (n + 1) (j0 : Int) q = follow x.rf x.cf n (x.rf.getD i 0) (chainStep x.rf x.cf (j0 : Int) q) := by
        rw [← hnxt]
        exact if_neg (by omega)
      rw [hfol]
      have h3' := h3
      cases h3 with
      | zero h4 h5 =>
        have hneg : x.rf.getD i 0 < 0 := by
          rw [toSt_rf hi] at h5
          by_cases hz : x.rf.getD i 0 < 0
          · exact hz
          · rw [if_neg hz] at h5; omega
        have hstep : chainStep x.rf x.cf (j0 : Int) q = addAt q i j0 1 := by
          unfold chainStep
          dsimp only
          rw [Int.toNat_natCast, h2, Int.toNat_natCast, if_neg (by omega)]
        rw [hstep, follow_neg _ _ hneg]
        have hg := gt_addAt (d := 1) hsz hi hj
        refine ⟨_, rfl, hsz.add hi, ⟨i, hi, h5, e3, fun i' hi' => ?_, ?_⟩, fun j' hj' => ?_, fun i' j' hi' hj' => ?_, fun i' j' hi' hj' h0 => ?_⟩
        · rw [hg, rowS_bump _ hj]
        · rw [hg, cst_bump _ _ hi hj]; omega
        · rw [hg, colS_bump _ hi]
        · rw [hg]
          have := hnn i' j' hi' hj'
          unfold bump
          split <;> omega
        · rw [hg] at h0
          unfold bump at h0
          by_cases hij : i' = i ∧ j' = j0
          · obtain ⟨rfl, rfl⟩ := hij
            exact .inr ⟨hE, hDδ, hδ⟩
          · rw [if_neg hij] at h0
            exact .inl (by omega)
      | succ h4 h5 h6 =>
        rename_i k2 u2
        have hnn2 : ¬ x.rf.getD i 0 < 0 := fun hz => by
          rw [toSt_rf hi, if_pos hz] at h5; omega
        obtain ⟨e', he', f1, f2, f3, f4⟩ := hd.way.tight i u2 h4 h5
        obtain ⟨i', j2, hi', hj2, h | ⟨h0, h⟩⟩ := mem_edges.1 he'
        case inl => subst h; dsimp only at f2; omega
        subst h
        dsimp only at f1 f2 f4
        subst f2
        subst f1
        rw [toSt_rf hi, if_neg hnn2] at h5
        rw [toSt_col hj2] at f3 f4
        rw [toSt_row hi] at f4
        have hrf : x.rf.getD i' 0 = (j2 : Int) := by omega
        have hD : x.ra.getD i' 0 = x.ca.getD j2 0 - c i' j2 := by
          have := hd.back i' j2 hi hj2 h0 f3; omega
        have hδ2 : x.ca.getD j2 0 - s j2 ≤ δ := by have := tight i' j2 hi hj2 h0; omega
        have hstep : chainStep x.rf x.cf (j0 : Int) q = addAt (addAt q i' j0 1) i' j2 (-1) := by
          unfold chainStep
          dsimp only
          rw [Int.toNat_natCast, h2, Int.toNat_natCast, hrf, if_pos (by omega), Int.toNat_natCast]
        have hs1 := hsz.add (j := j0) (d := 1) hi
        have hs2 := hs1.add (j := j2) (d := -1) hi
        have hg : gt (addAt (addAt q i' j0 1) i' j2 (-1)) = bump (bump (gt q) i' j0 1) i' j2 (-1) := by
          rw [gt_addAt hs1 hi hj2, gt_addAt hsz hi hj]
        have hq0 := hpos (k2 + 1) i' j2 (by omega) hi h3' hrf
        rw [hstep, hrf]
        obtain ⟨q', hq', hF⟩ := follow_ok hd hcf hold tight n k2 j2 (addAt (addAt q i' j0 1) i' j2 (-1)) h6 hj2 (by omega) hs2 (fun i3 j3 hi3 hj3 => by
            rw [hg]
            have := hnn i3 j3 hi3 hj3
            unfold bump
            by_cases hij : i3 = i' ∧ j3 = j2
            · obtain ⟨k1, k2⟩ := hij
              subst k1
              subst k2
              split <;> split <;> omega
            · rw [if_neg hij]
              split <;> omega) (fun k3 i3 j3 hk3 hi3 hc3 hr3 => by
            have hne : i3 ≠ i' := fun e => by
              subst e
              have := BF.Chain.len hc3 _ h3'
              omega
            have := hpos k3 i3 j3 (by omega) hi3 hc3 hr3
            rw [hg]
            unfold bump
            rw [if_neg (fun h => hne h.1), if_neg (fun h => hne h.1)]
            omega) hδ2
        refine ⟨q', hq', hF.sz, ?_, fun j' hj' => ?_, hF.nn, fun i3 j3 hi3 hj3 h0' => ?_⟩
        · obtain ⟨i0, g1, g2, g3, g4, g5⟩ := hF.root
          refine ⟨i0, g1, g2, g3, fun i3 hi3 => ?_, ?_⟩
          · rw [g4 i3 hi3, hg, rowS_bump _ hj2, rowS_bump _ hj]
            by_cases h : i3 = i'
            · rw [if_pos h, if_pos h]; omega
            · rw [if_neg h, if_neg h]; omega
          · rw [g5, hg, cst_bump _ _ hi hj2, cst_bump _ _ hi hj]; omega
        · rw [hF.col j' hj', hg, colS_bump _ hi, colS_bump _ hi]
          by_cases h : j' = j2
          · rw [if_pos h, if_pos h]; omega
          · rw [if_neg h, if_neg h]; omega
        · rcases hF.link i3 j3 hi3 hj3 h0' with h | h
          · rw [hg] at h
            unfold bump at h
            by_cases hij : i3 = i' ∧ j3 = j0
            · obtain ⟨k1, k2⟩ := hij
              subst k1
              subst k2
              exact .inr ⟨hE, hDδ, hδ⟩
            · rw [if_neg hij] at h
              split at h
              · exact .inl (by omega)
              · exact .inl (by omega)
          · exact .inr h
end

theorem bestCol_spec (cols ca : List Int) : ∀ n, (bestCol cols ca n = -1 ∧ ∀ j, j < n → 0 < cols.getD j 0 → ca.getD j 0 < far → False) ∨
    ∃ m : Nat, m < n ∧ bestCol cols ca n = (m : Int) ∧ 0 < cols.getD m 0 ∧ ca.getD m 0 < far ∧ ∀ j, j < n → 0 < cols.getD j 0 → ca.getD j 0 < far → ca.getD m 0 ≤ ca.getD j 0
  | 0 => .inl ⟨rfl, fun j hj => by omega⟩
  | n + 1 => by
    have e : bestCol cols ca (n + 1) = if 0 < cols.getD n 0 ∧ ca.getD n 0 < far ∧ (bestCol cols ca n < 0 ∨ ca.getD n 0 < ca.getD (bestCol cols ca n).toNat 0) then (n : Int) else bestCol cols ca n := rfl
    rcases bestCol_spec cols ca n with ⟨h1, h2⟩ | ⟨m, h1, h2, h3, h4, h5⟩
    · rw [e, h1]
      by_cases hc : 0 < cols.getD n 0 ∧ ca.getD n 0 < far
      · rw [if_pos ⟨hc.1, hc.2, .inl (by omega)⟩]
        refine .inr ⟨n, by omega, rfl, hc.1, hc.2, fun j hj k1 k2 => ?_⟩
        rcases Nat.lt_or_ge j n with h | h
        · exact (h2 j h k1 k2).elim
        · obtain rfl : j = n := by omega
          exact Int.le_refl _
      · rw [if_neg (fun h => hc ⟨h.1, h.2.1⟩)]
        refine .inl ⟨rfl, fun j hj k1 k2 => ?_⟩
        rcases Nat.lt_or_ge j n with h | h
        · exact h2 j h k1 k2
        · obtain rfl : j = n := by omega
          exact hc ⟨k1, k2⟩
    · rw [e, h2, Int.toNat_natCast]
      by_cases hc : 0 < cols.getD n 0 ∧ ca.getD n 0 < far ∧ ca.getD n 0 < ca.getD m 0
      · rw [if_pos ⟨hc.1, hc.2.1, .inr hc.2.2⟩]
        refine .inr ⟨n, by omega, rfl, hc.1, hc.2.1, fun j hj k1 k2 => ?_⟩
        rcases Nat.lt_or_ge j n with h | h
        · have := h5 j h k1 k2; omega
        · obtain rfl : j = n := by omega
          exact Int.le_refl _
      · rw [if_neg (fun h => hc ⟨h.1, h.2.1, by rcases h.2.2 with h | h <;> omega⟩)]
        refine .inr ⟨m, by omega, rfl, h3, h4, fun j hj k1 k2 => ?_⟩
        rcases Nat.lt_or_ge j n with h | h
        · exact h5 j h k1 k2
        · obtain rfl : j = n := by omega
          by_cases h : ca.getD j 0 < ca.getD m 0
          · exact (hc ⟨k1, k2, h⟩).elim
          · omega

/-- A plan on the way: a part of the masses is moved, as cheaply as so much can be. -/
structure Way2 (a b : List Int) (c p : List (List Int)) (V : Int) : Prop where
  shp : Shp a b p
  part : IsPart a.length b.length (ga a) (ga b) (gt p)
  good : ∃ r s : Nat → Int, Good a.length b.length (ga a) (ga b) (gt c) (gt p) r s V ∧ (∀ i, i < a.length → r i ≤ 99) ∧ ∀ j, j < b.length → 0 ≤ s j ∧ s j ≤ 99

section
variable {a b : List Int} {c p : List (List Int)} {V : Int}
theorem IsPart.at_le {R C : Nat} {a b : Nat → Int} {p : Nat → Nat → Int} (h : IsPart R C a b p) {i j : Nat} (hi : i < R) (hj : j < C) : p i j ≤ b j :=
  Int.le_trans (sg_at R (f := fun i => p i j) (fun i hi => h.nn i j hi hj) i hi) (h.col j hj)

theorem next_end (hc : Tb a.length b.length 0 99 c) (h : Way2 a b c p V) (hb : bestV a b c p < 0) : nextP a b c p = some p ∧ nextN a b c p = 0 ∧
    ((∀ i, i < a.length → rowS b.length (gt p) i = ga a i) ∨ (∀ j, j < b.length → colS a.length (gt p) j = ga b j)) := by
  refine ⟨if_pos hb, if_pos hb, ?_⟩
  obtain ⟨r, s, hg, hr, hs⟩ := h.good
  have hd := dist_ok hc h.shp h.part hg hr fun j hj => (hs j hj).2
  have hfar : far = 1099511627776 := rfl
  rcases bestCol_spec (leftV a b p).2 (dist a b c p).ca b.length with ⟨h1, h2⟩ | ⟨m, h1, h2, h3, h4, h5⟩
  · apply Classical.byContradiction
    intro hn
    have h6 : ∃ i, i < a.length ∧ rowS b.length (gt p) i < ga a i := Classical.byContradiction fun hx => hn (.inl fun i hi => by
      have := h.part.row i hi
      have : ¬ rowS b.length (gt p) i < ga a i := fun h => hx ⟨i, hi, h⟩
      omega)
    have h7 : ∃ j, j < b.length ∧ colS a.length (gt p) j < ga b j := Classical.byContradiction fun hx => hn (.inr fun j hj => by
      have := h.part.col j hj
      have : ¬ colS a.length (gt p) j < ga b j := fun h => hx ⟨j, hj, h⟩
      omega)
    obtain ⟨i, hi, h6⟩ := h6
    obtain ⟨j, hj, h7⟩ := h7
    have h8 := hd.left i hi h6
    have h9 := hd.rest i j hi hj (by omega)
    have h10 : gt c i j ≤ 99 := (hc.at' i j hi hj).2
    exact h2 j hj (by rw [leftV_col h.shp hj]; omega) (by omega)
  · have : bestV a b c p = (m : Int) := h2
    omega

theorem next_more (hc : Tb a.length b.length 0 99 c) (h : Way2 a b c p V) (hb : ¬ bestV a b c p < 0) : ∃ p', nextP a b c p = some p' ∧ Way2 a b c p' (nextN a b c p) ∧ V ≤ nextN a b c p ∧ 0 ≤ nextN a b c p ∧ nextN a b c p ≤ 99 ∧
    units a.length b.length (gt p') = units a.length b.length (gt p) + 1 ∧ cst a.length b.length (gt c) (gt p') = cst a.length b.length (gt c) (gt p) + nextN a b c p := by
  obtain ⟨r, s, hg, hr, hs⟩ := h.good
  have hd := dist_ok hc h.shp h.part hg hr fun j hj => (hs j hj).2
  have hst : DSt a.length b.length _ (dist a b c p) := distK_st hc h.shp (a.length + b.length)
  have hfar : far = 1099511627776 := rfl
  rcases bestCol_spec (leftV a b p).2 (dist a b c p).ca b.length with ⟨h1, h2⟩ | ⟨m, hm, h2, h3, h4, h5⟩
  · have : bestV a b c p = -1 := h1
    omega
  · have hbm : bestV a b c p = (m : Int) := h2
    have hN : nextN a b c p = (dist a b c p).ca.getD m 0 := by
      unfold nextN
      rw [if_neg hb, hbm, Int.toNat_natCast]
    have hP : nextP a b c p = follow (dist a b c p).rf (dist a b c p).cf (a.length + b.length) (m : Int) p := by
      unfold nextP
      rw [if_neg hb, hbm]
    rw [hP, hN]
    generalize dist a b c p = x at hd hst h4 h5 ⊢
    have hVm : V = s m := (hg.sleft m hm (by rw [leftV_col h.shp hm] at h3; omega)).symm
    obtain ⟨k, hk⟩ := hd.way.chain (a.length + m) (by rw [toSt_col hm]; exact h4)
    have hkN := Chain.short (N := a.length + b.length) (fun v hv => by
      rcases Nat.lt_or_ge v (a.length + b.length) with h | h
      · exact h
      · rw [toSt_out h] at hv; omega) hk
    obtain ⟨q', hq', hF⟩ := follow_ok (δ := x.ca.getD m 0 - V) hd (fun j hj => by
      have := (hst.b4.at (i := j) (by rw [hst.l4]; exact hj)).1
      exact this) hg.hold hg.tight (a.length + b.length) k m p hk hm (by omega) h.shp.tab.sz (fun i j hi hj => h.part.nn i j hi hj) (fun k' i j' hk' hi hc' hr' => by
        cases hc' with
        | zero g1 g2 =>
          rw [toSt_rf hi, if_neg (by omega)] at g2; omega
        | succ g1 g2 g3 =>
          obtain ⟨e, he, e1, e2, e3, e4⟩ := hd.way.tight i _ g1 g2
          obtain ⟨i', j2, hi', hj2, h | ⟨h0, h⟩⟩ := mem_edges.1 he
          · subst h; dsimp only at e2; omega
          · subst h
            dsimp only at e1 e2
            subst e2
            rw [toSt_rf hi, if_neg (by omega)] at g2
            obtain rfl : j2 = j' := by omega
            exact h0) (by omega)
    obtain ⟨i0, g1, g2, g3, g4, g5⟩ := hF.root
    obtain ⟨g6, g7⟩ := hd.root i0 g1 g3 g2
    -- some row is left, so all columns are reached
    have hcol : ∀ j, j < b.length → x.ca.getD j 0 ≤ 99 := fun j hj => by
      have h1 := hd.rest i0 j g1 hj (by omega)
      have : gt c i0 j ≤ 99 := (hc.at' i0 j g1 hj).2
      omega
    have hV : V ≤ x.ca.getD m 0 := by have := hd.slow m hm; omega
    have hm0 : 0 ≤ x.ca.getD m 0 := by have := hd.slow m hm; have := (hs m hm).1; omega
    have hleft := leftV_col h.shp hm
    have hpart : IsPart a.length b.length (ga a) (ga b) (gt q') := ⟨hF.nn, fun i hi => by
        rw [g4 i hi]
        have := h.part.row i hi
        by_cases h : i = i0
        · subst h; rw [if_pos rfl]; omega
        · rw [if_neg h]; omega, fun j hj => by
        rw [hF.col j hj]
        have := h.part.col j hj
        by_cases h : j = m
        · subst h
          rw [hleft] at h3
          rw [if_pos rfl]; omega
        · rw [if_neg h]; omega⟩
    refine ⟨q', hq', ⟨⟨h.shp.a5, h.shp.b5, h.shp.ha, h.shp.hb, hF.sz.rows, hF.sz.cols, fun i j hi hj => ⟨hF.nn i j hi hj, Int.le_trans (hpart.at_le hi hj) (h.shp.hb.at hj).2⟩⟩, hpart, ?_⟩, hV, hm0, hcol m hm, ?_, ?_⟩
    · -- the new costs
      let D := x.ca.getD m 0 - V
      have hD : D = x.ca.getD m 0 - V := rfl
      have hDn : 0 ≤ D := by omega
      let s' : Nat → Int := fun j => min (x.ca.getD j 0) (s j + D)
      let r' : Nat → Int := fun i => if x.ra.getD i 0 < far then min (x.ra.getD i 0) (r i + D) else 99
      have hs' : ∀ j, s' j = min (x.ca.getD j 0) (s j + D) := fun _ => rfl
      have hr1 : ∀ i, x.ra.getD i 0 < far → r' i = min (x.ra.getD i 0) (r i + D) := fun i h => if_pos h
      have hr2 : ∀ i, ¬ x.ra.getD i 0 < far → r' i = 99 := fun i h => if_neg h
      have hlink : ∀ i j, i < a.length → j < b.length → 0 < gt p i j → x.ra.getD i 0 < far ∧ x.ca.getD j 0 = x.ra.getD i 0 + gt c i j := fun i j hi hj h0 => by
        have k1 := hcol j hj
        have k2 := hd.back i j hi hj h0 (by omega)
        have k3 : 0 ≤ gt c i j := (hc.at' i j hi hj).1
        have k4 := hd.rest i j hi hj (by omega)
        exact ⟨by omega, by omega⟩
      refine ⟨r', s', ⟨fun i j hi hj => ?_, fun i j hi hj h0 => ?_, fun i hi => ?_, fun i hi hl => ?_, fun j hj => ?_, fun j hj hl => ?_⟩, fun i hi => ?_, fun j hj => ?_⟩
      · have k1 := hcol j hj
        have k3 : 0 ≤ gt c i j := (hc.at' i j hi hj).1
        by_cases hx : x.ra.getD i 0 < far
        · have k4 := hd.rest i j hi hj hx
          have k5 := hg.hold i j hi hj
          rw [hs', hr1 i hx]; omega
        · rw [hs', hr2 i hx]; omega
      · rcases hF.link i j hi hj h0 with hl | ⟨l1, l2, l3⟩
        · obtain ⟨k1, k2⟩ := hlink i j hi hj hl
          have k3 := hg.tight i j hi hj hl
          rw [hs', hr1 i k1]; omega
        · have k1 := hcol j hj
          have k3 : 0 ≤ gt c i j := (hc.at' i j hi hj).1
          rw [hs', hr1 i (by omega)]; omega
      · have k1 := hd.rlow i hi
        have k2 := hg.rnn i hi
        by_cases hx : x.ra.getD i 0 < far
        · rw [hr1 i hx]; omega
        · rw [hr2 i hx]; omega
      · have hl2 : rowS b.length (gt p) i < ga a i := by
          rw [g4 i hi] at hl
          split at hl <;> omega
        have k1 := hd.left i hi hl2
        have k2 := hg.rnn i hi
        rw [hr1 i (by omega)]; omega
      · rw [hs']
        have := hg.sle j hj
        omega
      · have hl2 : colS a.length (gt p) j < ga b j := by
          rw [hF.col j hj] at hl
          split at hl <;> omega
        have k1 := hg.sleft j hj hl2
        have k2 := h5 j hj (by rw [leftV_col h.shp hj]; omega) (by have := hcol j hj; omega)
        rw [hs']; omega
      · by_cases hx : x.ra.getD i 0 < far
        · rw [hr1 i hx]
          have : r i + D ≤ 99 ∨ x.ra.getD i 0 ≤ 99 := by
            by_cases hrow : ∃ j, j < b.length ∧ 0 < gt p i j
            · obtain ⟨j, hj, h0⟩ := hrow
              have k2 := (hlink i j hi hj h0).2
              have k3 : 0 ≤ gt c i j := (hc.at' i j hi hj).1
              have := hcol j hj
              right; omega
            · right
              -- without links a row is reached as one that is left
              obtain ⟨k', hk'⟩ := hd.way.chain i (by rw [toSt_row hi]; exact hx)
              cases hk' with
              | zero w1 w2 =>
                have := (hd.root i hi hx w2).2
                omega
              | succ w1 w2 w3 =>
                obtain ⟨e, he, e1, e2, e3, e4⟩ := hd.way.tight i _ w1 w2
                obtain ⟨i', j2, hi', hj2, h | ⟨h0, h⟩⟩ := mem_edges.1 he
                · subst h; dsimp only at e2; omega
                · subst h
                  dsimp only at e2
                  subst e2
                  exact (hrow ⟨j2, hj2, h0⟩).elim
          omega
        · rw [hr2 i hx]; omega
      · have k1 := hd.slow j hj
        have k2 := (hs j hj).1
        have k3 := hcol j hj
        rw [hs']; omega
    · unfold units
      rw [sg_congr a.length (fun i hi => g4 i hi), sg_add, sg_one, if_pos g1]
    · rw [g5, g7]; omega
end
end Go.OT

namespace Go.OT
set_option linter.unusedSimpArgs false
set_option linter.unusedVariables false

def sumL (l : List Int) : Int := sg l.length (ga l)

def iterV (a b : List Int) (c : List (List Int)) : Nat → List (List Int) → List (List Int)
  | 0, p => p
  | n + 1, p => if bestV a b c p < 0 then p else iterV a b c n ((nextP a b c p).getD [])
def emptyV (a b : List Int) : List (List Int) := List.replicate a.length (List.replicate b.length 0)
def cheapV (a b : List Int) (c : List (List Int)) : List (List Int) := iterV a b c ((sumL a).toNat + 1) (emptyV a b)

/-- Masses and a cost table. -/
structure MC (a b : List Int) (c : List (List Int)) : Prop where
  a5 : 1 ≤ a.length ∧ a.length ≤ 6
  b5 : 1 ≤ b.length ∧ b.length ≤ 6
  ha : Bnd 0 200 a
  hb : Bnd 0 200 b
  hc : Tb a.length b.length 0 99 c

theorem gt_empty (a b : List Int) : gt (emptyV a b) = fun _ _ => 0 := by
  funext i j
  unfold gt emptyV
  rw [List.getD_eq_getElem?_getD, List.getD_eq_getElem?_getD, List.getElem?_replicate]
  split
  · rw [Option.getD_some, List.getElem?_replicate]
    split <;> rfl
  · rfl
theorem rowS_zero (C i : Nat) : rowS C (fun _ _ => 0) i = 0 := sg_zero C
theorem colS_zero (R j : Nat) : colS R (fun _ _ => 0) j = 0 := sg_zero R
theorem units_zero (R C : Nat) : units R C (fun _ _ => 0) = 0 := by
  unfold units
  rw [sg_congr R fun i _ => rowS_zero C i, sg_zero]
theorem cst_zero (R C : Nat) (c : Nat → Nat → Int) : cst R C c (fun _ _ => 0) = 0 := by
  unfold cst
  rw [sg_congr R fun i _ => (sg_congr C fun j _ => Int.mul_zero _).trans (sg_zero C), sg_zero]

section
variable {a b : List Int} {c : List (List Int)}
theorem emptyV_tb (a b : List Int) {lo hi : Int} (h1 : lo ≤ 0) (h2 : 0 ≤ hi) : Tb a.length b.length lo hi (emptyV a b) := by
  refine ⟨by simp [emptyV], fun i hi => ?_, fun i j _ _ => ?_⟩
  · unfold emptyV
    rw [List.getD_eq_getElem?_getD, List.getElem?_replicate, if_pos hi, Option.getD_some, List.length_replicate]
  · have := congrFun (congrFun (gt_empty a b) i) j
    unfold gt at this
    rw [this]
    exact ⟨h1, h2⟩

theorem MC.start (h : MC a b c) : Way2 a b c (emptyV a b) 0 := by
  refine ⟨⟨h.a5, h.b5, h.ha, h.hb, emptyV_tb a b (by omega) (by omega)⟩, ?_, fun _ => 0, fun _ => 0, ?_, fun _ _ => by dsimp only; omega, fun _ _ => by dsimp only; omega⟩
  · rw [gt_empty]
    exact ⟨fun _ _ _ _ => Int.le_refl _, fun i hi => by rw [rowS_zero]; exact (h.ha.at hi).1, fun j hj => by rw [colS_zero]; exact (h.hb.at hj).1⟩
  · rw [gt_empty]
    refine ⟨fun i j hi hj => ?_, fun i j _ _ h0 => absurd h0 (by omega), fun _ _ => Int.le_refl _, fun _ _ _ => rfl, fun _ _ => Int.le_refl _, fun _ _ _ => rfl⟩
    have : 0 ≤ gt c i j := (h.hc.at' i j hi hj).1
    omega

theorem IsPart.units_le {p : Nat → Nat → Int} (h : IsPart a.length b.length (ga a) (ga b) p) : 0 ≤ units a.length b.length p ∧ units a.length b.length p ≤ sumL a ∧ units a.length b.length p ≤ sumL b :=
  ⟨sg_nonneg _ fun i hi => sg_nonneg _ fun j hj => h.nn i j hi hj, sg_le _ fun i hi => h.row i hi, by rw [units_col]; exact sg_le _ fun j hj => h.col j hj⟩

/-- Until nothing is left. -/
theorem iterV_ok (hc : Tb a.length b.length 0 99 c) : ∀ (n : Nat) (p : List (List Int)) (V : Int), Way2 a b c p V → sumL a - units a.length b.length (gt p) < n →
    (∃ V', Way2 a b c (iterV a b c n p) V') ∧ bestV a b c (iterV a b c n p) < 0
  | 0, p, V, h, hn => by have := h.part.units_le; omega
  | n + 1, p, V, h, hn => by
    by_cases hb : bestV a b c p < 0
    · have e : iterV a b c (n + 1) p = p := if_pos hb
      rw [e]
      exact ⟨⟨V, h⟩, hb⟩
    · obtain ⟨p', h1, h2, h3, h4, h5, h6, h7⟩ := next_more hc h hb
      have e : iterV a b c (n + 1) p = iterV a b c n p' := by
        show (if _ then _ else _) = _
        rw [if_neg hb, h1]; rfl
      rw [e]
      exact iterV_ok hc n p' _ h2 (by omega)

theorem MC.cheap (h : MC a b c) : (∃ V, Way2 a b c (cheapV a b c) V) ∧ bestV a b c (cheapV a b c) < 0 := by
  refine iterV_ok h.hc _ _ 0 h.start ?_
  rw [gt_empty, units_zero]
  omega

/-- A plan of all that there is, and prices that are tight. -/
structure Best (a b : List Int) (c p : List (List Int)) : Prop where
  shp : Shp a b p
  plan : IsPlan a.length b.length (ga a) (ga b) (gt p)
  good : ∃ r s : Nat → Int, Holds a.length b.length (gt c) (fun i => - r i) s ∧ Tight a.length b.length (gt c) (gt p) (fun i => - r i) s ∧ (∀ i, i < a.length → 0 ≤ r i ∧ r i ≤ 99) ∧ ∀ j, j < b.length → 0 ≤ s j ∧ s j ≤ 99

theorem MC.best (h : MC a b c) (hs : sumL a = sumL b) : Best a b c (cheapV a b c) := by
  obtain ⟨⟨V, h1⟩, hb⟩ := h.cheap
  have h2 := (next_end h.hc h1 hb).2.2
  obtain ⟨r, s, hg, hr, hs2⟩ := h1.good
  have h3 : (∀ i, i < a.length → rowS b.length (gt (cheapV a b c)) i = ga a i) ∧ ∀ j, j < b.length → colS a.length (gt (cheapV a b c)) j = ga b j := by
    rcases h2 with h2 | h2
    · refine ⟨h2, fun j hj => ?_⟩
      have e1 : units a.length b.length (gt (cheapV a b c)) = sumL a := sg_congr _ h2
      rw [units_col, hs] at e1
      have e2 := sg_all0 b.length (f := fun j => ga b j - colS a.length (gt (cheapV a b c)) j) (fun j hj => by have := h1.part.col j hj; omega) (by rw [sg_sub]; unfold sumL at e1; omega) j hj
      omega
    · refine ⟨fun i hi => ?_, h2⟩
      have e1 : sg b.length (colS a.length (gt (cheapV a b c))) = sumL b := sg_congr _ h2
      rw [← units_col, ← hs] at e1
      have e2 := sg_all0 a.length (f := fun i => ga a i - rowS b.length (gt (cheapV a b c)) i) (fun i hi => by have := h1.part.row i hi; omega) (by rw [sg_sub]; unfold sumL units at e1; omega) i hi
      omega
  exact ⟨h1.shp, ⟨h1.part.nn, h3.1, h3.2⟩, r, s, fun i j hi hj => by have := hg.hold i j hi hj; dsimp only; omega, fun i j hi hj h0 => by have := hg.tight i j hi hj h0; dsimp only; omega, fun i hi => ⟨hg.rnn i hi, hr i hi⟩, hs2⟩
end
end Go.OT
