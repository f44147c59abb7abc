/- Distances from some places, lowered along the edges of a graph, sweep by sweep: when they stay, and the chains that lead to them. No program; no condition. -/
import Derived.Test.YtaldpinkkgdklaaVsA
namespace Go.BF
set_option linter.unusedSimpArgs false
set_option linter.unusedVariables false

structure St where
  d : Nat → Int
  fr : Nat → Int

structure Ed where
  u : Nat
  v : Nat
  c : Int

def upF {α : Type} (f : Nat → α) (i : Nat) (x : α) : Nat → α := fun j => if j = i then x else f j

def rlx (F : Int) (s : St) (e : Ed) : St := if s.d e.u < F ∧ s.d e.u + e.c < s.d e.v then ⟨upF s.d e.v (s.d e.u + e.c), upF s.fr e.v (e.u : Int)⟩ else s

def sweep (F : Int) (es : List Ed) (s : St) : St := es.foldl (rlx F) s

def sweeps (F : Int) (es : List Ed) : Nat → St → St
  | 0, s => s
  | n + 1, s => sweep F es (sweeps F es n s)

theorem rlx_le (F : Int) (s : St) (e : Ed) (v : Nat) : (rlx F s e).d v ≤ s.d v := by
  unfold rlx
  split
  · rename_i h
    simp only [upF]
    split
    · rename_i hv; subst hv; omega
    · exact Int.le_refl _
  · exact Int.le_refl _

theorem foldl_le (F : Int) : ∀ (es : List Ed) (s : St) (v : Nat), (es.foldl (rlx F) s).d v ≤ s.d v
  | [], _, _ => Int.le_refl _
  | e :: es, s, v => Int.le_trans (foldl_le F es (rlx F s e) v) (rlx_le F s e v)

/-! ### Sweeps come to rest -/
section
variable {F : Int} {es : List Ed} {p : Nat → Int} {N : Nat}

/-- The places of S are settled. -/
structure Inv (F : Int) (es : List Ed) (p : Nat → Int) (N : Nat) (S : Nat → Bool) (s : St) : Prop where
  out : ∀ e ∈ es, S e.u = true → s.d e.v ≤ s.d e.u + e.c
  low : ∀ v u, v < N → u < N → S v = true → S u = false → s.d u < F → s.d v - p v ≤ s.d u - p u

def Rest (F : Int) (es : List Ed) (s : St) : Prop := ∀ e ∈ es, s.d e.u < F → s.d e.v ≤ s.d e.u + e.c

theorem rlx_rest {s : St} {e : Ed} (h : s.d e.u < F → s.d e.v ≤ s.d e.u + e.c) : rlx F s e = s := by
  unfold rlx
  rw [if_neg]
  rintro ⟨h1, h2⟩
  have := h h1
  omega

theorem foldl_rest {s : St} : ∀ (l : List Ed), (∀ e ∈ l, s.d e.u < F → s.d e.v ≤ s.d e.u + e.c) → l.foldl (rlx F) s = s
  | [], _ => rfl
  | e :: l, h => by
    rw [List.foldl_cons, rlx_rest (h e (List.mem_cons_self ..))]
    exact foldl_rest l fun e' he' => h e' (List.mem_cons_of_mem _ he')

theorem Rest.swp {s : St} (h : Rest F es s) : sweep F es s = s := foldl_rest es h

/-- What holds in the middle of a sweep, if t is the lowest place that is not settled. -/
structure Mid (F : Int) (es : List Ed) (p : Nat → Int) (N : Nat) (S : Nat → Bool) (t : Nat) (s0 s : St) : Prop where
  same : ∀ v, v < N → S v = true ∨ v = t → s.d v = s0.d v
  high : ∀ u, u < N → S u = false → s.d u < F → s0.d t - p t ≤ s.d u - p u
  le : ∀ v, s.d v ≤ s0.d v

theorem Mid.step {S : Nat → Bool} {t : Nat} {s0 s : St} (hp : ∀ e ∈ es, p e.v ≤ p e.u + e.c) (hN : ∀ e ∈ es, e.u < N ∧ e.v < N) (ht : t < N) (htF : s0.d t < F) (hst : S t = false) (h0 : Inv F es p N S s0) (h : Mid F es p N S t s0 s) {e : Ed} (he : e ∈ es) :
    Mid F es p N S t s0 (rlx F s e) := by
  obtain ⟨h1, h2, h3⟩ := h
  obtain ⟨n1, n2⟩ := hN e he
  have hpe := hp e he
  by_cases hc : s.d e.u < F ∧ s.d e.u + e.c < s.d e.v
  · have hu : S e.u = false := by
      cases hS : S e.u with
      | false => rfl
      | true =>
        have h4 := h0.out e he hS
        have h5 := h1 e.u n1 (.inl hS)
        have h6 := h3 e.v
        omega
    have hm := h2 e.u n1 hu hc.1
    have hv : ¬ (S e.v = true ∨ e.v = t) := by
      intro hv
      have h5 := h1 e.v n2 hv
      have h7 : s0.d e.v - p e.v ≤ s0.d t - p t := by
        rcases hv with hv | hv
        · exact h0.low e.v t n2 ht hv hst htF
        · rw [hv]; exact Int.le_refl _
      omega
    have hr : rlx F s e = ⟨upF s.d e.v (s.d e.u + e.c), upF s.fr e.v (e.u : Int)⟩ := if_pos hc
    rw [hr]
    refine ⟨fun v hvN hv' => ?_, fun u huN hu' huF => ?_, fun v => ?_⟩
    · have : v ≠ e.v := fun e1 => hv (e1 ▸ hv')
      simp only [upF]
      rw [if_neg this]
      exact h1 v hvN hv'
    · simp only [upF] at huF ⊢
      split
      · rename_i e1; subst e1; omega
      · rename_i e1
        rw [if_neg e1] at huF
        exact h2 u huN hu' huF
    · simp only [upF]
      split
      · rename_i e1; subst e1; have := h3 e.v; omega
      · exact h3 v
  · have hr : rlx F s e = s := if_neg hc
    rw [hr]
    exact ⟨h1, h2, h3⟩

theorem Mid.fold {S : Nat → Bool} {t : Nat} {s0 : St} (hp : ∀ e ∈ es, p e.v ≤ p e.u + e.c) (hN : ∀ e ∈ es, e.u < N ∧ e.v < N) (ht : t < N) (htF : s0.d t < F) (hst : S t = false) (h0 : Inv F es p N S s0) :
    ∀ (l : List Ed) (s : St), (∀ e ∈ l, e ∈ es) → Mid F es p N S t s0 s → Mid F es p N S t s0 (l.foldl (rlx F) s) ∧ ∀ e ∈ l, e.u = t → (l.foldl (rlx F) s).d e.v ≤ s0.d t + e.c
  | [], _, _, h => ⟨h, fun _ he => by cases he⟩
  | e :: l, s, hl, h => by
    have h' := h.step hp hN ht htF hst h0 (hl e (List.mem_cons_self ..))
    obtain ⟨k1, k2⟩ := Mid.fold hp hN ht htF hst h0 l (rlx F s e) (fun e' he' => hl e' (List.mem_cons_of_mem _ he')) h'
    refine ⟨k1, fun e' he' hu => ?_⟩
    rcases List.mem_cons.1 he' with rfl | he'
    · have h4 := foldl_le F l (rlx F s e') e'.v
      have h5 := h.same t ht (.inr rfl)
      have h6 : (rlx F s e').d e'.v ≤ s0.d t + e'.c := by
        unfold rlx
        split
        · simp only [upF, if_true, hu, h5]; exact Int.le_refl _
        · rename_i hc
          rw [hu, h5] at hc
          omega
      exact Int.le_trans h4 h6
    · exact k2 e' he' hu

theorem exists_low (f : Nat → Int) (q : Nat → Bool) : ∀ n : Nat, (∃ u, u < n ∧ q u = true) → ∃ t, t < n ∧ q t = true ∧ ∀ u, u < n → q u = true → f t ≤ f u
  | 0, h => by obtain ⟨u, hu, _⟩ := h; omega
  | n + 1, h => by
    by_cases hn : ∃ u, u < n ∧ q u = true
    · obtain ⟨t, h1, h2, h3⟩ := exists_low f q n hn
      by_cases hq : q n = true ∧ f n < f t
      · refine ⟨n, by omega, hq.1, fun u hu hqu => ?_⟩
        rcases Nat.lt_or_ge u n with hlt | hge
        · have := h3 u hlt hqu; omega
        · have : u = n := by omega
          subst this; exact Int.le_refl _
      · refine ⟨t, by omega, h2, fun u hu hqu => ?_⟩
        rcases Nat.lt_or_ge u n with hlt | hge
        · exact h3 u hlt hqu
        · have : u = n := by omega
          subst this
          by_cases hf : f u < f t
          · exact absurd ⟨hqu, hf⟩ hq
          · omega
    · obtain ⟨u, hu, hqu⟩ := h
      have : u = n := by
        rcases Nat.lt_or_ge u n with hlt | hge
        · exact absurd ⟨u, hlt, hqu⟩ hn
        · omega
      subst this
      refine ⟨u, hu, hqu, fun x hx hqx => ?_⟩
      rcases Nat.lt_or_ge x u with hlt | hge
      · exact absurd ⟨x, hlt, hqx⟩ hn
      · have : x = u := by omega
        subst this; exact Int.le_refl _

theorem count_lt {q q' : Nat → Bool} {t : Nat} (hi : ∀ x, q' x = true → q x = true) (h1 : q t = true) (h2 : q' t = false) : ∀ n : Nat, ((List.range n).countP q' ≤ (List.range n).countP q) ∧ (t < n → (List.range n).countP q' + 1 ≤ (List.range n).countP q)
  | 0 => ⟨by simp, fun h => by omega⟩
  | n + 1 => by
    obtain ⟨k1, k2⟩ := count_lt hi h1 h2 n
    rw [List.range_succ, List.countP_append, List.countP_append, List.countP_singleton, List.countP_singleton]
    have h3 : (if q' n = true then 1 else 0) ≤ (if q n = true then 1 else 0) := by
      cases hq : q' n with
      | false => simp
      | true => simp [hi n hq]
    refine ⟨by omega, fun ht => ?_⟩
    rcases Nat.lt_or_ge t n with hlt | hge
    · have := k2 hlt; omega
    · have : t = n := by omega
      subst this
      simp only [h1, h2, if_true]
      simp
      omega

theorem Inv.swp {S : Nat → Bool} {s : St} (hp : ∀ e ∈ es, p e.v ≤ p e.u + e.c) (hN : ∀ e ∈ es, e.u < N ∧ e.v < N) (h : Inv F es p N S s) :
    Rest F es s ∨ ∃ S', Inv F es p N S' (sweep F es s) ∧ (List.range N).countP (fun v => !S' v) + 1 ≤ (List.range N).countP (fun v => !S v) := by
  by_cases hu : ∃ u, u < N ∧ (!S u && decide (s.d u < F)) = true
  · obtain ⟨t, h1, h2, h3⟩ := exists_low (fun u => s.d u - p u) _ N hu
    simp only [Bool.and_eq_true, Bool.not_eq_true', decide_eq_true_eq] at h2 h3
    right
    obtain ⟨k1, k2⟩ := Mid.fold hp hN h1 h2.2 h2.1 h es s (fun _ he => he) ⟨fun _ _ _ => rfl, fun u huN hu' huF => h3 u huN ⟨hu', huF⟩, fun _ => Int.le_refl _⟩
    refine ⟨fun v => S v || decide (v = t), ⟨fun e he hS => ?_, fun v u hv hu' hS hSu huF => ?_⟩, ?_⟩
    · show (sweep F es s).d e.v ≤ (sweep F es s).d e.u + e.c
      simp only [Bool.or_eq_true, decide_eq_true_eq] at hS
      have h4 : (sweep F es s).d e.u = s.d e.u := k1.same e.u (hN e he).1 hS
      rw [h4]
      by_cases ht : e.u = t
      · rw [ht]; exact k2 e he ht
      · have h5 := h.out e he (hS.resolve_right ht)
        have h6 : (sweep F es s).d e.v ≤ s.d e.v := foldl_le F es s e.v
        omega
    · simp only [Bool.or_eq_true, decide_eq_true_eq, Bool.or_eq_false_iff, decide_eq_false_iff_not] at hS hSu
      have h4 : (sweep F es s).d v = s.d v := k1.same v hv hS
      have h5 : s.d t - p t ≤ (sweep F es s).d u - p u := k1.high u hu' hSu.1 huF
      rw [h4]
      have h6 : s.d v - p v ≤ s.d t - p t := by
        rcases hS with hS | hS
        · exact h.low v t hv h1 hS h2.1 h2.2
        · rw [hS]; exact Int.le_refl _
      omega
    · refine (count_lt (t := t) (fun x hx => ?_) ?_ ?_ N).2 h1
      · simp only [Bool.not_eq_true', Bool.or_eq_false_iff] at hx ⊢
        exact hx.1
      · simp [h2.1]
      · simp
  · left
    intro e he hF
    have hS : S e.u = true := by
      cases hS : S e.u with
      | true => rfl
      | false => exact absurd ⟨e.u, (hN e he).1, by simp [hS, hF]⟩ hu
    exact h.out e he hS

/-- After as many sweeps as there are places, all is at rest. -/
theorem rest_sweeps (s : St) (hp : ∀ e ∈ es, p e.v ≤ p e.u + e.c) (hN : ∀ e ∈ es, e.u < N ∧ e.v < N) : Rest F es (sweeps F es N s) := by
  have key : ∀ k, Rest F es (sweeps F es k s) ∨ ∃ S, Inv F es p N S (sweeps F es k s) ∧ (List.range N).countP (fun v => !S v) + k ≤ N := by
    intro k
    induction k with
    | zero => exact .inr ⟨fun _ => false, ⟨fun _ _ h => Bool.noConfusion h, fun _ _ _ _ h => Bool.noConfusion h⟩, by simp⟩
    | succ k ih =>
      rcases ih with ih | ⟨S, h1, h2⟩
      · left
        show Rest F es (sweep F es (sweeps F es k s))
        rw [ih.swp]; exact ih
      · rcases h1.swp hp hN with h3 | ⟨S', h3, h4⟩
        · left
          show Rest F es (sweep F es (sweeps F es k s))
          rw [h3.swp]; exact h3
        · exact .inr ⟨S', h3, by omega⟩
  rcases key N with h | ⟨S, h1, h2⟩
  · exact h
  · intro e he _
    refine h1.out e he ?_
    have h3 : (List.range N).countP (fun v => !S v) = 0 := by omega
    rw [List.countP_eq_zero] at h3
    have := h3 e.u (List.mem_range.2 (hN e he).1)
    simpa using this

/-! ### The chains behind the distances -/
inductive Chain (F : Int) (s : St) : Nat → Nat → Prop where
  | zero {v : Nat} : s.d v < F → s.fr v = -1 → Chain F s 0 v
  | succ {k v u : Nat} : s.d v < F → s.fr v = (u : Int) → Chain F s k u → Chain F s (k + 1) v

structure Way (F : Int) (es : List Ed) (s : St) : Prop where
  chain : ∀ v, s.d v < F → ∃ k, Chain F s k v
  tight : ∀ v u : Nat, s.d v < F → s.fr v = (u : Int) → ∃ e ∈ es, e.u = u ∧ e.v = v ∧ s.d u < F ∧ s.d u + e.c ≤ s.d v

theorem Way.rlx {s : St} (hp : ∀ e ∈ es, p e.v ≤ p e.u + e.c) (h : Way F es s) (hF : ∀ v, s.d v ≤ F) {e : Ed} (he : e ∈ es) : Way F es (rlx F s e) := by
  by_cases hc : s.d e.u < F ∧ s.d e.u + e.c < s.d e.v
  · have hr : BF.rlx F s e = ⟨upF s.d e.v (s.d e.u + e.c), upF s.fr e.v (e.u : Int)⟩ := if_pos hc
    rw [hr]
    have hpe := hp e he
    have hne : e.u ≠ e.v := fun e1 => by rw [e1] at hc hpe; omega
    have hd : ∀ y, y ≠ e.v → upF s.d e.v (s.d e.u + e.c) y = s.d y := fun y hy => if_neg hy
    have hf : ∀ y, y ≠ e.v → upF s.fr e.v (e.u : Int) y = s.fr y := fun y hy => if_neg hy
    have hdv : upF s.d e.v (s.d e.u + e.c) e.v = s.d e.u + e.c := if_pos rfl
    have hfv : upF s.fr e.v (e.u : Int) e.v = (e.u : Int) := if_pos rfl
    have up : ∀ k y, Chain F s k y → s.d y - p y ≤ s.d e.u - p e.u → Chain F ⟨upF s.d e.v (s.d e.u + e.c), upF s.fr e.v (e.u : Int)⟩ k y := by
      intro k y hch
      induction hch with
      | zero h1 h2 =>
        rename_i y
        intro hy
        have hyv : y ≠ e.v := fun e1 => by subst e1; omega
        exact .zero (by show upF s.d e.v _ y < F; rw [hd y hyv]; exact h1) (by show upF s.fr e.v _ y = -1; rw [hf y hyv]; exact h2)
      | succ h1 h2 h3 ih =>
        rename_i k y z
        intro hy
        have hyv : y ≠ e.v := fun e1 => by subst e1; omega
        obtain ⟨e', he', e1, e2, e3, e4⟩ := h.tight y z h1 h2
        have hpz := hp e' he'
        rw [e1, e2] at hpz
        exact .succ (by show upF s.d e.v _ y < F; rw [hd y hyv]; exact h1) (by show upF s.fr e.v _ y = _; rw [hf y hyv]; exact h2) (ih (by omega))
    obtain ⟨ku, hku⟩ := h.chain e.u hc.1
    have hvF : upF s.d e.v (s.d e.u + e.c) e.v < F := by rw [hdv]; have := hF e.v; omega
    have chv : Chain F ⟨upF s.d e.v (s.d e.u + e.c), upF s.fr e.v (e.u : Int)⟩ (ku + 1) e.v := .succ hvF hfv (up ku e.u hku (Int.le_refl _))
    have all : ∀ k y, Chain F s k y → ∃ k', Chain F ⟨upF s.d e.v (s.d e.u + e.c), upF s.fr e.v (e.u : Int)⟩ k' y := by
      intro k y hch
      induction hch with
      | zero h1 h2 =>
        rename_i y
        by_cases hyv : y = e.v
        · rw [hyv]; exact ⟨_, chv⟩
        · exact ⟨0, .zero (by show upF s.d e.v _ y < F; rw [hd y hyv]; exact h1) (by show upF s.fr e.v _ y = -1; rw [hf y hyv]; exact h2)⟩
      | succ h1 h2 h3 ih =>
        rename_i k y z
        by_cases hyv : y = e.v
        · rw [hyv]; exact ⟨_, chv⟩
        · obtain ⟨k', hk'⟩ := ih
          exact ⟨k' + 1, .succ (by show upF s.d e.v _ y < F; rw [hd y hyv]; exact h1) (by show upF s.fr e.v _ y = _; rw [hf y hyv]; exact h2) hk'⟩
    refine ⟨fun v hv => ?_, fun v u hv hu => ?_⟩
    · by_cases hvv : v = e.v
      · rw [hvv]; exact ⟨_, chv⟩
      · have hv' : s.d v < F := by
          have : upF s.d e.v (s.d e.u + e.c) v < F := hv
          rw [hd v hvv] at this; exact this
        obtain ⟨k, hk⟩ := h.chain v hv'
        exact all k v hk
    · have hle : ∀ y, upF s.d e.v (s.d e.u + e.c) y ≤ s.d y := fun y => by
        by_cases hy : y = e.v
        · rw [hy, hdv]; omega
        · rw [hd y hy]; exact Int.le_refl _
      by_cases hvv : v = e.v
      · subst hvv
        have hu' : upF s.fr e.v (e.u : Int) e.v = (u : Int) := hu
        rw [hfv] at hu'
        have : e.u = u := by omega
        subst this
        refine ⟨e, he, rfl, rfl, ?_, ?_⟩
        · show upF s.d e.v _ e.u < F
          rw [hd _ hne]; exact hc.1
        · show upF s.d e.v _ e.u + e.c ≤ upF s.d e.v _ e.v
          rw [hd _ hne, hdv]; exact Int.le_refl _
      · have hv' : upF s.d e.v (s.d e.u + e.c) v < F := hv
        have hu' : upF s.fr e.v (e.u : Int) v = (u : Int) := hu
        rw [hd v hvv] at hv'
        rw [hf v hvv] at hu'
        obtain ⟨e', he', e1, e2, e3, e4⟩ := h.tight v u hv' hu'
        refine ⟨e', he', e1, e2, ?_, ?_⟩
        · exact Int.lt_of_le_of_lt (hle u) e3
        · show upF s.d e.v _ u + e'.c ≤ upF s.d e.v _ v
          rw [hd v hvv]
          have := hle u
          omega
  · have hr : BF.rlx F s e = s := if_neg hc
    rw [hr]
    exact h

theorem Way.fold (hp : ∀ e ∈ es, p e.v ≤ p e.u + e.c) : ∀ (l : List Ed) (s : St), (∀ e ∈ l, e ∈ es) → Way F es s → (∀ v, s.d v ≤ F) → Way F es (l.foldl (BF.rlx F) s) ∧ ∀ v, (l.foldl (BF.rlx F) s).d v ≤ F
  | [], _, _, h, hF => ⟨h, hF⟩
  | e :: l, s, hl, h, hF => Way.fold hp l (BF.rlx F s e) (fun e' he' => hl e' (List.mem_cons_of_mem _ he')) (h.rlx hp hF (hl e (List.mem_cons_self ..))) (fun v => Int.le_trans (rlx_le F s e v) (hF v))

theorem Way.sweeps (hp : ∀ e ∈ es, p e.v ≤ p e.u + e.c) (s : St) (h : Way F es s) (hF : ∀ v, s.d v ≤ F) : ∀ n, Way F es (BF.sweeps F es n s) ∧ ∀ v, (BF.sweeps F es n s).d v ≤ F
  | 0 => ⟨h, hF⟩
  | n + 1 => by
    obtain ⟨h1, h2⟩ := Way.sweeps hp s h hF n
    exact Way.fold hp es _ (fun _ he => he) h1 h2

/-- A place has one chain alone. -/
theorem Chain.len {s : St} {k : Nat} {v : Nat} (h : Chain F s k v) : ∀ k', Chain F s k' v → k = k' := by
  induction h with
  | zero h1 h2 =>
    intro k' h'
    cases h' with
    | zero => rfl
    | succ a b c => rw [h2] at b; omega
  | succ h1 h2 h3 ih =>
    intro k' h'
    cases h' with
    | zero a b => rw [h2] at b; omega
    | succ a b c =>
      rename_i u1 k2 u2
      rw [h2] at b
      have : u1 = u2 := by omega
      subst this
      rw [ih _ c]
end
end Go.BF
