/- Rounds of links, and a table turned along a round. No program; no condition. -/
import Derived.Test.YtloipnalmkdldaaWa
namespace Go.OT
set_option linter.unusedSimpArgs false
set_option linter.unusedVariables false

/-- Of numbers below C at most C differ. -/
theorem pigeonF (C : Nat) (f : Nat → Nat) (n : Nat) (h1 : ∀ i, i < n → f i < C) (h2 : ∀ i j, i < n → j < n → f i = f j → i = j) : n ≤ C := by
  have one : ∀ n : Nat, sg n (fun _ => 1) = n := by
    intro n
    induction n with
    | zero => rfl
    | succ n ih => show sg n (fun _ => 1) + 1 = _; rw [ih]; omega
  have inner : ∀ (c : Nat) (k : Nat), k ≤ n → sg k (fun i => if f i = c then 1 else 0) ≤ 1 ∧ ((∀ i, i < k → f i ≠ c) → sg k (fun i => if f i = c then 1 else 0) = 0) := by
    intro c k
    induction k with
    | zero => intro _; exact ⟨by simp [sg], fun _ => rfl⟩
    | succ k ih =>
      intro hk
      obtain ⟨i1, i2⟩ := ih (by omega)
      constructor
      · show sg k (fun i => if f i = c then 1 else 0) + (if f k = c then 1 else 0) ≤ 1
        by_cases hc : f k = c
        · have := i2 fun i hi e => by have := h2 i k (by omega) (by omega) (e.trans hc.symm); omega
          rw [if_pos hc, this]; omega
        · rw [if_neg hc]; omega
      · intro hall
        show sg k (fun i => if f i = c then 1 else 0) + (if f k = c then 1 else 0) = 0
        rw [i2 fun i hi => hall i (by omega), if_neg (hall k (by omega))]; rfl
  have e1 : sg n (fun i => sg C fun c => if f i = c then 1 else 0) = n := by
    rw [← one n]
    refine sg_congr n fun i hi => ?_
    have := sg_one 1 (f i) C
    rw [if_pos (h1 i hi)] at this
    refine Eq.trans ?_ this
    exact sg_congr C fun c _ => by
      by_cases e : f i = c
      · rw [if_pos e, if_pos e.symm]
      · rw [if_neg e, if_neg fun e2 => e e2.symm]
  rw [sg_swap] at e1
  have e2 := sg_le C (f := fun c => sg n fun i => if f i = c then 1 else 0) (g := fun _ => 1) fun c _ => (inner c n (Nat.le_refl _)).1
  rw [one] at e2
  omega

/-- The way so far: by turns along a row and along a column, never back to a column (row) that it left. -/
structure LkWay (m W : List Lk) : Prop where
  pos : 0 < W.length
  mem : ∀ t, t < W.length → W.getD t (0, 0) ∈ m
  row : ∀ t, t + 1 < W.length → t % 2 = 0 → (W.getD (t + 1) (0, 0)).1 = (W.getD t (0, 0)).1
  col : ∀ t, t + 1 < W.length → t % 2 = 1 → (W.getD (t + 1) (0, 0)).2 = (W.getD t (0, 0)).2
  nocol : ∀ s i, s < W.length → s % 2 = 1 → i % 2 = 0 → i < s → (W.getD i (0, 0)).2 ≠ (W.getD s (0, 0)).2
  norow : ∀ s i, s < W.length → s % 2 = 0 → i % 2 = 1 → i < s → (W.getD i (0, 0)).1 ≠ (W.getD s (0, 0)).1
/-- A link beside the last one of the way. -/
def mate (b : Bool) (last x : Lk) : Bool := !decide (x = last) && ((b && decide (x.1 = last.1)) || (!b && decide (x.2 = last.2)))
/-- A column (row) that the way left before is met again. -/
def meets (b : Bool) (x y : Lk) : Prop := if b = true then x.2 = y.2 else x.1 = y.1
instance (b : Bool) (x y : Lk) : Decidable (meets b x y) := by unfold meets; infer_instance

section
variable {m W : List Lk}
theorem LkWay.start {x : Lk} (h : x ∈ m) : LkWay m [x] :=
  ⟨by simp, fun t ht => by have : t = 0 := by simpa using ht
                           subst this; exact h, fun t ht => by simp at ht, fun t ht => by simp at ht, fun s i hs _ _ hi => by simp at hs; omega, fun s i hs _ _ hi => by simp at hs; omega⟩
theorem getD_snoc (W : List Lk) (x : Lk) (t : Nat) : (W ++ [x]).getD t (0, 0) = if t < W.length then W.getD t (0, 0) else if t = W.length then x else (0, 0) := by
  simp only [List.getD_eq_getElem?_getD]
  rcases Nat.lt_trichotomy t W.length with h | h | h
  · rw [List.getElem?_append_left h, if_pos h]
  · subst h; simp
  · rw [List.getElem?_append_right (by omega), if_neg (by omega), if_neg (by omega), List.getElem?_eq_none (by simp; omega)]
    rfl
/-- One link more, if nothing is met again. -/
theorem LkWay.more (h : LkWay m W) {x : Lk} (hx : x ∈ m) (hm : mate (decide (W.length % 2 = 1)) (W.getD (W.length - 1) (0, 0)) x = true)
    (hno : ∀ i, i + 1 < W.length → (W.length - i) % 2 = 1 → ¬ meets (decide (W.length % 2 = 1)) (W.getD i (0, 0)) x) : LkWay m (W ++ [x]) := by
  have hp := h.pos
  have hlen : (W ++ [x]).length = W.length + 1 := by simp
  have lt : ∀ t, t < W.length → (W ++ [x]).getD t (0, 0) = W.getD t (0, 0) := fun t ht => by rw [getD_snoc, if_pos ht]
  have la : (W ++ [x]).getD W.length (0, 0) = x := by rw [getD_snoc, if_neg (Nat.lt_irrefl _), if_pos rfl]
  unfold mate at hm
  simp only [Bool.and_eq_true, Bool.or_eq_true, Bool.not_eq_true', decide_eq_false_iff_not, decide_eq_true_eq] at hm
  obtain ⟨hne, hmt⟩ := hm
  have e1 : W.length - 1 + 1 = W.length := by omega
  refine ⟨by omega, fun t ht => ?_, fun t ht hp => ?_, fun t ht hp => ?_, fun s i hs hs2 hi2 hi => ?_, fun s i hs hs2 hi2 hi => ?_⟩
  · rw [getD_snoc]
    split
    · rename_i h1; exact h.mem t h1
    · rw [if_pos (by omega)]; exact hx
  · rw [hlen] at ht
    rcases Nat.lt_or_ge (t + 1) W.length with h1 | h1
    · rw [lt _ h1, lt t (by omega)]; exact h.row t h1 hp
    · have e2 : t + 1 = W.length := by omega
      rw [e2, la, lt t (by omega)]
      rcases hmt with h2 | h2
      · rw [show t = W.length - 1 by omega]; exact h2.2
      · omega
  · rw [hlen] at ht
    rcases Nat.lt_or_ge (t + 1) W.length with h1 | h1
    · rw [lt _ h1, lt t (by omega)]; exact h.col t h1 hp
    · have e2 : t + 1 = W.length := by omega
      rw [e2, la, lt t (by omega)]
      rcases hmt with h2 | h2
      · omega
      · rw [show t = W.length - 1 by omega]; exact h2.2
  · rw [hlen] at hs
    rcases Nat.lt_or_ge s W.length with h1 | h1
    · rw [lt s h1, lt i (by omega)]; exact h.nocol s i h1 hs2 hi2 hi
    · have e2 : s = W.length := by omega
      subst e2
      rw [la, lt i hi]
      rcases Nat.lt_or_ge (i + 1) W.length with h2 | h2
      · have := hno i h2 (by omega)
        unfold meets at this
        rwa [if_pos (decide_eq_true hs2)] at this
      · have e3 : i = W.length - 1 := by omega
        subst e3
        intro e
        rcases hmt with k | k
        · exact hne (Prod.ext k.2 e.symm)
        · omega
  · rw [hlen] at hs
    rcases Nat.lt_or_ge s W.length with h1 | h1
    · rw [lt s h1, lt i (by omega)]; exact h.norow s i h1 hs2 hi2 hi
    · have e2 : s = W.length := by omega
      subst e2
      rw [la, lt i hi]
      rcases Nat.lt_or_ge (i + 1) W.length with h2 | h2
      · have := hno i h2 (by omega)
        unfold meets at this
        rwa [if_neg (by simp; omega)] at this
      · have e3 : i = W.length - 1 := by omega
        subst e3
        intro e
        rcases hmt with k | k
        · omega
        · exact hne (Prod.ext e.symm k.2)
/-- Links of the way at even places differ in rows and columns; so do those at odd places. -/
theorem LkWay.even (h : LkWay m W) {s t : Nat} (hs : s < t) (ht : t < W.length) (h2 : s % 2 = t % 2) : (W.getD s (0, 0)).1 ≠ (W.getD t (0, 0)).1 ∧ (W.getD s (0, 0)).2 ≠ (W.getD t (0, 0)).2 := by
  by_cases he : t % 2 = 0
  · refine ⟨fun e => ?_, fun e => ?_⟩
    · have h3 := h.row s (by omega) (by omega)
      exact h.norow t (s + 1) ht he (by omega) (by omega) (h3.trans e)
    · have h3 := h.col (t - 1) (by omega) (by omega)
      rw [show t - 1 + 1 = t by omega] at h3
      exact h.nocol (t - 1) s (by omega) (by omega) (by omega) (by omega) (e.trans h3)
  · refine ⟨fun e => ?_, fun e => ?_⟩
    · have h3 := h.row (t - 1) (by omega) (by omega)
      rw [show t - 1 + 1 = t by omega] at h3
      exact h.norow (t - 1) s (by omega) (by omega) (by omega) (by omega) (e.trans h3)
    · have h3 := h.col s (by omega) (by omega)
      exact h.nocol t (s + 1) ht (by omega) (by omega) (by omega) (h3.trans e)
/-- Such a way is short. -/
theorem LkWay.short {C : Nat} (h : LkWay m W) (hc : ∀ x ∈ m, 0 ≤ x.2 ∧ x.2 < C) : W.length ≤ 2 * C := by
  have := pigeonF C (fun j => (W.getD (2 * j) (0, 0)).2.toNat) ((W.length + 1) / 2) (fun j hj => by
    have := hc _ (h.mem (2 * j) (by omega))
    omega) (fun i j hi hj e => by
    have h1 := hc _ (h.mem (2 * i) (by omega))
    have h2 := hc _ (h.mem (2 * j) (by omega))
    rcases Nat.lt_trichotomy i j with k | k | k
    · exact absurd (show (W.getD (2 * i) (0, 0)).2 = (W.getD (2 * j) (0, 0)).2 by omega) (h.even (s := 2 * i) (t := 2 * j) (by omega) (by omega) (by omega)).2
    · exact k
    · exact absurd (show (W.getD (2 * j) (0, 0)).2 = (W.getD (2 * i) (0, 0)).2 by omega) (h.even (s := 2 * j) (t := 2 * i) (by omega) (by omega) (by omega)).2)
  omega
end

/-- A round: by turns along rows and columns (b: the first step is along a row), and back to its first link. -/
structure Rnd (m r : List Lk) (b : Bool) : Prop where
  pos : 0 < r.length
  ev : r.length % 2 = 0
  mem : ∀ t, t < r.length → r.getD t (0, 0) ∈ m
  fst : ∀ t, t + 1 < r.length → t % 2 = 0 → if b = true then (r.getD (t + 1) (0, 0)).1 = (r.getD t (0, 0)).1 else (r.getD (t + 1) (0, 0)).2 = (r.getD t (0, 0)).2
  snd : ∀ t, t + 1 < r.length → t % 2 = 1 → if b = true then (r.getD (t + 1) (0, 0)).2 = (r.getD t (0, 0)).2 else (r.getD (t + 1) (0, 0)).1 = (r.getD t (0, 0)).1
  back : if b = true then (r.getD 0 (0, 0)).2 = (r.getD (r.length - 1) (0, 0)).2 else (r.getD 0 (0, 0)).1 = (r.getD (r.length - 1) (0, 0)).1
  even : ∀ s t, s < t → t < r.length → s % 2 = 0 → t % 2 = 0 → r.getD s (0, 0) ≠ r.getD t (0, 0)
  odd : ∀ s t, s < r.length → t < r.length → s % 2 = 0 → t % 2 = 1 → r.getD s (0, 0) ≠ r.getD t (0, 0)
/-- Where the way meets what it left, a round lies between. -/
theorem LkWay.round {m W : List Lk} (h : LkWay m W) {x : Lk} (hx : x ∈ m) (hm : mate (decide (W.length % 2 = 1)) (W.getD (W.length - 1) (0, 0)) x = true) {i : Nat}
    (hi : i + 1 < W.length) (hi2 : (W.length - i) % 2 = 1) (hmt : meets (decide (W.length % 2 = 1)) (W.getD i (0, 0)) x) : Rnd m ((W ++ [x]).drop i) (decide (W.length % 2 = 1)) := by
  have hp := h.pos
  have hlen : ((W ++ [x]).drop i).length = W.length + 1 - i := by simp
  have at' : ∀ t, t < W.length - i → ((W ++ [x]).drop i).getD t (0, 0) = W.getD (i + t) (0, 0) := fun t ht => by
    rw [List.getD_eq_getElem?_getD, List.getElem?_drop, ← List.getD_eq_getElem?_getD, getD_snoc, if_pos (by omega)]
  have la : ((W ++ [x]).drop i).getD (W.length - i) (0, 0) = x := by
    rw [List.getD_eq_getElem?_getD, List.getElem?_drop, ← List.getD_eq_getElem?_getD, getD_snoc, if_neg (by omega), if_pos (by omega)]
  unfold mate at hm
  simp only [Bool.and_eq_true, Bool.or_eq_true, Bool.not_eq_true', decide_eq_false_iff_not, decide_eq_true_eq] at hm
  obtain ⟨hne, hma⟩ := hm
  unfold meets at hmt
  simp only [decide_eq_true_eq] at hmt
  refine ⟨by omega, by omega, fun t ht => ?_, fun t ht h2 => ?_, fun t ht h2 => ?_, ?_, fun s t hs ht s2 t2 => ?_, fun s t hs ht s2 t2 => ?_⟩
  · rcases Nat.lt_or_ge t (W.length - i) with h1 | h1
    · rw [at' t h1]; exact h.mem _ (by omega)
    · rw [show t = W.length - i by omega, la]; exact hx
  · simp only [decide_eq_true_eq]
    rcases Nat.lt_or_ge (t + 1) (W.length - i) with h1 | h1
    · rw [at' _ h1, at' t (by omega), show i + (t + 1) = i + t + 1 by omega]
      split
      · exact h.row _ (by omega) (by omega)
      · exact h.col _ (by omega) (by omega)
    · rw [show t + 1 = W.length - i by omega, la, at' t (by omega), show i + t = W.length - 1 by omega]
      split
      · rcases hma with k | k
        · exact k.2
        · omega
      · rcases hma with k | k
        · omega
        · exact k.2
  · simp only [decide_eq_true_eq]
    rw [hlen] at ht
    rw [at' (t + 1) (by omega), at' t (by omega), show i + (t + 1) = i + t + 1 by omega]
    split
    · exact h.col _ (by omega) (by omega)
    · exact h.row _ (by omega) (by omega)
  · simp only [decide_eq_true_eq]
    rw [hlen, show W.length + 1 - i - 1 = W.length - i by omega, la, at' 0 (by omega), Nat.add_zero]
    exact hmt
  · rw [hlen] at ht
    rw [at' s (by omega), at' t (by omega)]
    intro e
    exact (h.even (s := i + s) (t := i + t) (by omega) (by omega) (by omega)).1 (by rw [e])
  · rw [hlen] at hs ht
    rw [at' s (by omega)]
    have key : ∀ u v : Nat, u < W.length → v < W.length → u % 2 ≠ v % 2 → W.getD u (0, 0) ≠ W.getD v (0, 0) := by
      have one : ∀ u v : Nat, u < v → v < W.length → u % 2 ≠ v % 2 → W.getD u (0, 0) ≠ W.getD v (0, 0) := fun u v hu hv h2 e => by
        by_cases h3 : v % 2 = 1
        · exact h.nocol v u hv h3 (by omega) hu (by rw [e])
        · exact h.norow v u hv (by omega) (by omega) hu (by rw [e])
      intro u v hu hv h2
      rcases Nat.lt_trichotomy u v with k | k | k
      · exact one u v k hv h2
      · exact absurd (by rw [k]) h2
      · exact fun e => one v u k hu (fun e2 => h2 e2.symm) e.symm
    rcases Nat.lt_or_ge t (W.length - i) with h1 | h1
    · rw [at' t h1]; exact key _ _ (by omega) (by omega) (by omega)
    · rw [show t = W.length - i by omega, la]
      intro e
      -- x lies in the row (column) of the last link, and in the column (row) of link i
      rcases Nat.lt_or_ge (i + s) (W.length - 1) with h3 | h3
      · have h4 := h.even (s := i + s) (t := W.length - 1) h3 (by omega) (by omega)
        rcases hma with k | k
        · exact h4.1 (by rw [e, k.2])
        · exact h4.2 (by rw [e, k.2])
      · exact hne (by rw [← e, show i + s = W.length - 1 by omega])

/-! ### A table turned along a round -/
def sgn (t : Nat) : Int := if t % 2 = 0 then -1 else 1
/-- How often (with signs) a cell is met by the first k links. -/
def hits (r : List Lk) (i j : Nat) (k : Nat) : Int := sg k fun t => sgn t * ind (r.getD t (0, 0) = ((i : Int), (j : Int)))
/-- Turned by d along the first k links. -/
structure TurnK (p q : List (List Int)) (r : List Lk) (d : Int) (k : Nat) : Prop where
  rows : q.length = p.length
  cols : ∀ i, i < p.length → (q.getD i []).length = (p.getD i []).length
  val : ∀ i j, i < p.length → j < (p.getD i []).length → (q.getD i []).getD j 0 = (p.getD i []).getD j 0 + d * hits r i j k
/-- Sums in pairs that take each other away. -/
theorem alt_pairs (f : Nat → Int) : ∀ n, (∀ q, q < n → f (2 * q) = f (2 * q + 1)) → sg (2 * n) (fun t => sgn t * f t) = 0
  | 0, _ => rfl
  | n + 1, h => by
    have ih := alt_pairs f n fun q hq => h q (by omega)
    rw [show 2 * (n + 1) = 2 * n + 1 + 1 by omega]
    show sg (2 * n) (fun t => sgn t * f t) + sgn (2 * n) * f (2 * n) + sgn (2 * n + 1) * f (2 * n + 1) = 0
    rw [ih, h n (by omega), show sgn (2 * n) = -1 from if_pos (by omega), show sgn (2 * n + 1) = 1 from if_neg (by omega)]
    omega
theorem alt_shift (f : Nat → Int) (n : Nat) (hn : 0 < n) (h : ∀ q, q + 1 < n → f (2 * q + 1) = f (2 * q + 2)) (hb : f 0 = f (2 * n - 1)) : sg (2 * n) (fun t => sgn t * f t) = 0 := by
  have key : ∀ m, 0 < m → (∀ q, q + 1 < m → f (2 * q + 1) = f (2 * q + 2)) → sg (2 * m) (fun t => sgn t * f t) = f (2 * m - 1) - f 0 := by
    intro m
    induction m with
    | zero => intro h0; omega
    | succ m ih =>
      intro _ h
      rw [show 2 * (m + 1) = 2 * m + 1 + 1 by omega]
      show sg (2 * m) (fun t => sgn t * f t) + sgn (2 * m) * f (2 * m) + sgn (2 * m + 1) * f (2 * m + 1) = _
      rw [show sgn (2 * m) = -1 from if_pos (by omega), show sgn (2 * m + 1) = 1 from if_neg (by omega), show 2 * m + 1 + 1 - 1 = 2 * m + 1 by omega]
      rcases Nat.eq_zero_or_pos m with h0 | h0
      · subst h0; simp [sg]; omega
      · rw [ih h0 fun q hq => h q (by omega)]
        have := h (m - 1) (by omega)
        rw [show 2 * (m - 1) + 2 = 2 * m by omega, show 2 * (m - 1) + 1 = 2 * m - 1 by omega] at this
        omega
  rw [key n hn h, hb]
  omega
theorem ind_congr {p q : Prop} [Decidable p] [Decidable q] (h : p ↔ q) : ind p = ind q := by
  by_cases hp : p
  · rw [ind_t hp, ind_t (h.1 hp)]
  · rw [ind_f hp, ind_f fun hq => hp (h.2 hq)]
section
variable {m r : List Lk} {b : Bool}
/-- Along a round nothing is gained in a row or a column. -/
theorem Rnd.flat (h : Rnd m r b) (x : Int) : sg r.length (fun t => sgn t * ind ((r.getD t (0, 0)).1 = x)) = 0 ∧ sg r.length (fun t => sgn t * ind ((r.getD t (0, 0)).2 = x)) = 0 := by
  obtain ⟨n, hn⟩ : ∃ n, r.length = 2 * n := ⟨r.length / 2, by have := h.ev; omega⟩
  have hp := h.pos
  have hf := h.fst
  have hs := h.snd
  have hb := h.back
  rw [hn] at hf hs hb ⊢
  cases b with
  | true =>
    refine ⟨alt_pairs _ n fun q hq => ?_, alt_shift _ n (by omega) (fun q hq => ?_) ?_⟩
    · have := hf (2 * q) (by omega) (by omega)
      rw [if_pos rfl] at this
      rw [this]
    · have := hs (2 * q + 1) (by omega) (by omega)
      rw [if_pos rfl] at this
      rw [show 2 * q + 2 = 2 * q + 1 + 1 by omega, this]
    · rw [if_pos rfl] at hb
      rw [hb]
  | false =>
    refine ⟨alt_shift _ n (by omega) (fun q hq => ?_) ?_, alt_pairs _ n fun q hq => ?_⟩
    · have := hs (2 * q + 1) (by omega) (by omega)
      rw [if_neg Bool.false_ne_true] at this
      rw [show 2 * q + 2 = 2 * q + 1 + 1 by omega, this]
    · rw [if_neg Bool.false_ne_true] at hb
      rw [hb]
    · have := hf (2 * q) (by omega) (by omega)
      rw [if_neg Bool.false_ne_true] at this
      rw [this]
/-- A cell is met at most once at an even place, and then at no odd one. -/
theorem Rnd.hits (h : Rnd m r b) (i j : Nat) : (∀ t, t < r.length → t % 2 = 0 → r.getD t (0, 0) = ((i : Int), (j : Int)) → Go.OT.hits r i j r.length = -1) ∧
    ((∀ t, t < r.length → t % 2 = 0 → r.getD t (0, 0) ≠ ((i : Int), (j : Int))) → 0 ≤ Go.OT.hits r i j r.length ∧ (0 < Go.OT.hits r i j r.length → ((i : Int), (j : Int)) ∈ m)) := by
  refine ⟨fun t ht h2 he => ?_, fun hno => ?_⟩
  · have e : Go.OT.hits r i j r.length = sg r.length fun s => if s = t then -1 else 0 := sg_congr _ fun s hs => by
      by_cases hst : s = t
      · subst hst; rw [if_pos rfl, ind_t he, show sgn s = -1 from if_pos h2]; rfl
      · rw [if_neg hst]
        have hne : ¬ r.getD s (0, 0) = ((i : Int), (j : Int)) := fun e => by
          by_cases hs2 : s % 2 = 0
          · rcases Nat.lt_or_ge s t with k | k
            · exact h.even s t k ht hs2 h2 (e.trans he.symm)
            · exact h.even t s (by omega) hs h2 hs2 (he.trans e.symm)
          · exact h.odd t s ht hs h2 (by omega) (he.trans e.symm)
        rw [ind_f hne, Int.mul_zero]
    rw [e, sg_one, if_pos ht]
  · have hnn : ∀ t, t < r.length → 0 ≤ sgn t * ind (r.getD t (0, 0) = ((i : Int), (j : Int))) := fun t ht => by
      by_cases h2 : t % 2 = 0
      · rw [ind_f (hno t ht h2), Int.mul_zero]; omega
      · rw [show sgn t = 1 from if_neg h2, Int.one_mul]; exact (ind_01 _).1
    refine ⟨sg_nonneg _ hnn, fun hpos => ?_⟩
    apply Classical.byContradiction
    intro hm
    have : Go.OT.hits r i j r.length = 0 := by
      refine (sg_congr _ fun t ht => ?_).trans (sg_zero r.length)
      have hne : ¬ r.getD t (0, 0) = ((i : Int), (j : Int)) := fun e => hm (by rw [← e]; exact h.mem t ht)
      show sgn t * ind _ = 0
      rw [ind_f hne, Int.mul_zero]
    omega
end

theorem hits_row {r : List Lk} {C k : Nat} (hc : ∀ t, t < k → 0 ≤ (r.getD t (0, 0)).2 ∧ (r.getD t (0, 0)).2 < C) (i : Nat) : sg C (fun j => hits r i j k) = sg k fun t => sgn t * ind ((r.getD t (0, 0)).1 = i) := by
  unfold hits
  rw [sg_swap]
  refine sg_congr k fun t ht => ?_
  rw [sg_mul]
  congr 1
  have h1 := hc t ht
  obtain ⟨c, hcc⟩ : ∃ c : Nat, (r.getD t (0, 0)).2 = c := ⟨(r.getD t (0, 0)).2.toNat, by omega⟩
  by_cases hi : (r.getD t (0, 0)).1 = i
  · rw [ind_t hi]
    have := sg_one 1 c C
    rw [if_pos (by omega)] at this
    refine Eq.trans (sg_congr C fun j _ => ?_) this
    by_cases hj : j = c
    · subst hj; rw [if_pos rfl, ind_t (Prod.ext hi hcc)]
    · rw [if_neg hj, ind_f fun e => hj (by have : (r.getD t (0, 0)).2 = (j : Int) := by rw [e]
                                           omega)]
  · rw [ind_f hi]
    refine (sg_congr C fun j _ => ?_).trans (sg_zero C)
    exact ind_f fun e => hi (by rw [e])
theorem hits_col {r : List Lk} {R k : Nat} (hc : ∀ t, t < k → 0 ≤ (r.getD t (0, 0)).1 ∧ (r.getD t (0, 0)).1 < R) (j : Nat) : sg R (fun i => hits r i j k) = sg k fun t => sgn t * ind ((r.getD t (0, 0)).2 = j) := by
  unfold hits
  rw [sg_swap]
  refine sg_congr k fun t ht => ?_
  rw [sg_mul]
  congr 1
  have h1 := hc t ht
  obtain ⟨c, hcc⟩ : ∃ c : Nat, (r.getD t (0, 0)).1 = c := ⟨(r.getD t (0, 0)).1.toNat, by omega⟩
  by_cases hi : (r.getD t (0, 0)).2 = j
  · rw [ind_t hi]
    have := sg_one 1 c R
    rw [if_pos (by omega)] at this
    refine Eq.trans (sg_congr R fun i _ => ?_) this
    by_cases hj : i = c
    · subst hj; rw [if_pos rfl, ind_t (Prod.ext hcc hi)]
    · rw [if_neg hj, ind_f fun e => hj (by have : (r.getD t (0, 0)).1 = (i : Int) := by rw [e]
                                           omega)]
  · rw [ind_f hi]
    refine (sg_congr R fun i _ => ?_).trans (sg_zero R)
    exact ind_f fun e => hi (by rw [e])

/-- What a link of a table is. -/
def LinkOf (R C : Nat) (p : List (List Int)) (x : Lk) : Prop := ∃ i j : Nat, i < R ∧ j < C ∧ x = ((i : Int), (j : Int)) ∧ 0 < gt p i j
def cellV (p : List (List Int)) (x : Lk) : Int := gt p x.1.toNat x.2.toNat
/-- A table with the same sums, and links that were links, one less at least. -/
structure TurnOK (R C : Nat) (p q : List (List Int)) : Prop where
  sz : Sz R C q
  row : ∀ i, i < R → rowS C (gt q) i = rowS C (gt p) i
  col : ∀ j, j < C → colS R (gt q) j = colS R (gt p) j
  nn : ∀ i j, i < R → j < C → 0 ≤ gt q i j
  sub : ∀ i j, i < R → j < C → 0 < gt q i j → 0 < gt p i j
  less : ∃ i j, i < R ∧ j < C ∧ 0 < gt p i j ∧ gt q i j = 0
theorem turn_ok {R C : Nat} {p q : List (List Int)} {m r : List Lk} {b : Bool} {d : Int} (hr : Rnd m r b) (hm : ∀ x ∈ m, LinkOf R C p x) (hsz : Sz R C p) (hnn : ∀ i j, i < R → j < C → 0 ≤ gt p i j)
    (ht : TurnK p q r d r.length) (hd : ∀ t, t < r.length → t % 2 = 0 → d ≤ cellV p (r.getD t (0, 0))) (hd2 : ∃ t, t < r.length ∧ t % 2 = 0 ∧ d = cellV p (r.getD t (0, 0))) : TurnOK R C p q := by
  have hbox : ∀ t, t < r.length → (0 ≤ (r.getD t (0, 0)).1 ∧ (r.getD t (0, 0)).1 < R) ∧ (0 ≤ (r.getD t (0, 0)).2 ∧ (r.getD t (0, 0)).2 < C) := fun t ht => by
    obtain ⟨i, j, hi, hj, e, _⟩ := hm _ (hr.mem t ht)
    rw [e]
    exact ⟨⟨by simp, by simpa using hi⟩, ⟨by simp, by simpa using hj⟩⟩
  have hcols : ∀ i, i < R → (q.getD i []).length = C := fun i hi => by
    rw [ht.cols i (by rw [hsz.rows]; exact hi), hsz.cols i hi]
  have hval : ∀ i j, i < R → j < C → gt q i j = gt p i j + d * hits r i j r.length := fun i j hi hj => ht.val i j (by rw [hsz.rows]; exact hi) (by rw [hsz.cols i hi]; exact hj)
  have hdpos : 0 < d := by
    obtain ⟨t, h1, _, h3⟩ := hd2
    obtain ⟨i, j, hi, hj, e, h0⟩ := hm _ (hr.mem t h1)
    rw [e] at h3
    rw [h3]
    exact h0
  have at_even : ∀ i j, i < R → j < C → (∃ t, t < r.length ∧ t % 2 = 0 ∧ r.getD t (0, 0) = ((i : Int), (j : Int))) → gt q i j = gt p i j - d ∧ d ≤ gt p i j := fun i j hi hj ⟨t, h1, h2, h3⟩ => by
    have e := (hr.hits i j).1 t h1 h2 h3
    have e2 := hd t h1 h2
    rw [h3] at e2
    have e3 : cellV p ((i : Int), (j : Int)) = gt p i j := rfl
    rw [hval i j hi hj, e]
    omega
  have at_none : ∀ i j, i < R → j < C → (¬ ∃ t, t < r.length ∧ t % 2 = 0 ∧ r.getD t (0, 0) = ((i : Int), (j : Int))) → gt p i j ≤ gt q i j ∧ (gt p i j < gt q i j → 0 < gt p i j) := fun i j hi hj hno => by
    obtain ⟨e1, e2⟩ := (hr.hits i j).2 fun t h1 h2 h3 => hno ⟨t, h1, h2, h3⟩
    have e3 : 0 ≤ d * hits r i j r.length := Int.mul_nonneg (by omega) e1
    rw [hval i j hi hj]
    refine ⟨by omega, fun hlt => ?_⟩
    have e4 : 0 < hits r i j r.length := by
      apply Classical.byContradiction
      intro h
      have : hits r i j r.length = 0 := by omega
      rw [this, Int.mul_zero] at hlt
      omega
    obtain ⟨i', j', _, _, e5, e6⟩ := hm _ (e2 e4)
    simp only [Prod.mk.injEq] at e5
    obtain ⟨e7, e8⟩ := e5
    have e9 : i = i' := by omega
    have e10 : j = j' := by omega
    subst e9 e10
    exact e6
  refine ⟨⟨by rw [ht.rows, hsz.rows], hcols⟩, fun i hi => ?_, fun j hj => ?_, fun i j hi hj => ?_, fun i j hi hj h0 => ?_, ?_⟩
  · show sg C (fun j => gt q i j) = sg C fun j => gt p i j
    rw [sg_congr C fun j hj => hval i j hi hj, sg_add, sg_mul, hits_row (fun t ht => (hbox t ht).2) i, (hr.flat i).1, Int.mul_zero, Int.add_zero]
  · show sg R (fun i => gt q i j) = sg R fun i => gt p i j
    rw [sg_congr R fun i hi => hval i j hi hj, sg_add, sg_mul, hits_col (fun t ht => (hbox t ht).1) j, (hr.flat j).2]
    omega
  · by_cases he : ∃ t, t < r.length ∧ t % 2 = 0 ∧ r.getD t (0, 0) = ((i : Int), (j : Int))
    · have := at_even i j hi hj he; omega
    · have := at_none i j hi hj he
      have := hnn i j hi hj
      omega
  · by_cases he : ∃ t, t < r.length ∧ t % 2 = 0 ∧ r.getD t (0, 0) = ((i : Int), (j : Int))
    · have := at_even i j hi hj he; omega
    · have := at_none i j hi hj he
      rcases Int.lt_or_le (gt p i j) (gt q i j) with h | h
      · exact this.2 h
      · omega
  · obtain ⟨t, h1, h2, h3⟩ := hd2
    obtain ⟨i, j, hi, hj, e, h0⟩ := hm _ (hr.mem t h1)
    have := at_even i j hi hj ⟨t, h1, h2, e⟩
    rw [e] at h3
    have e3 : cellV p ((i : Int), (j : Int)) = gt p i j := rfl
    exact ⟨i, j, hi, hj, h0, by omega⟩
/-- How many links a table has. -/
def numL (R C : Nat) (p : List (List Int)) : Int := sg R fun i => sg C fun j => ind (0 < gt p i j)
theorem numL_less {R C : Nat} {p q : List (List Int)} (h : TurnOK R C p q) : numL R C q < numL R C p := by
  obtain ⟨i, j, hi, hj, h1, h2⟩ := h.less
  have hle : ∀ i, i < R → ∀ j, j < C → ind (0 < gt q i j) ≤ ind (0 < gt p i j) := fun i hi j hj => by
    by_cases h0 : 0 < gt q i j
    · rw [ind_t h0, ind_t (h.sub i j hi hj h0)]; omega
    · rw [ind_f h0]; exact (ind_01 _).1
  refine sg_lt R (fun i hi => sg_le C fun j hj => hle i hi j hj) hi (sg_lt C (fun j hj => hle i hi j hj) hj ?_)
  rw [ind_t h1, ind_f (by omega)]
  omega
theorem numL_nn (R C : Nat) (p : List (List Int)) : 0 ≤ numL R C p := sg_nonneg R fun _ _ => sg_nonneg C fun _ _ => (ind_01 _).1
end Go.OT
