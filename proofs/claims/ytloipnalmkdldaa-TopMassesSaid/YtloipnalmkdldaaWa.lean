/- Forests of links: what is left when links alone in their row or column are taken away, again and again. No program; no condition. -/
import Derived.Test.YtloipnalmkdldaaP1
namespace Go.OT
set_option linter.unusedSimpArgs false
set_option linter.unusedVariables false

abbrev Lk := Int × Int
/-- How many links lie in a row, in a column. -/
def cntR (l : List Lk) (r : Int) : Nat := (l.filter fun x => decide (x.1 = r)).length
def cntC (l : List Lk) (c : Int) : Nat := (l.filter fun x => decide (x.2 = c)).length
def inB (l : List Lk) (x : Lk) : Bool := decide (2 ≤ cntR l x.1) && decide (2 ≤ cntC l x.2)
def peel (l : List Lk) : List Lk := l.filter (inB l)
def boundF : Nat → List Lk → List Lk
  | 0, l => l
  | n + 1, l => if (peel l).length = l.length then l else boundF n (peel l)
def boundV (l : List Lk) : List Lk := boundF (l.length + 1) l
theorem peel_le (l : List Lk) : (peel l).length ≤ l.length := List.length_filter_le _ _
theorem peel_eq {l : List Lk} (h : (peel l).length = l.length) : peel l = l := (List.filter_sublist (p := inB l) (l := l)).eq_of_length h
theorem boundF_eq : ∀ (n m : Nat) (l : List Lk), l.length < n → l.length < m → boundF n l = boundF m l
  | 0, _, _, h, _ => absurd h (Nat.not_lt_zero _)
  | _ + 1, 0, _, _, h => absurd h (Nat.not_lt_zero _)
  | n + 1, m + 1, l, h1, h2 => by
    show (if _ then _ else _) = if _ then _ else _
    split
    · rfl
    · have := peel_le l
      exact boundF_eq n m (peel l) (by omega) (by omega)
theorem bound_step (l : List Lk) : boundV l = if (peel l).length = l.length then l else boundV (peel l) := by
  show (if _ then _ else _) = _
  split
  · rfl
  · have := peel_le l
    exact boundF_eq _ _ _ (by omega) (by omega)
/-- Induction along the peeling. -/
theorem peel_ind {p : List Lk → Prop} (h1 : ∀ l, peel l = l → p l) (h2 : ∀ l, (peel l).length < l.length → p (peel l) → p l) (l : List Lk) : p l := by
  have key : ∀ n (l : List Lk), l.length ≤ n → p l := by
    intro n
    induction n with
    | zero => exact fun l hl => h1 l (peel_eq (by have := peel_le l; omega))
    | succ n ih =>
      intro l hl
      have := peel_le l
      by_cases he : (peel l).length = l.length
      · exact h1 l (peel_eq he)
      · exact h2 l (by omega) (ih _ (by omega))
  exact key _ l (Nat.le_refl _)
theorem bound_fix (l : List Lk) : peel (boundV l) = boundV l := by
  refine peel_ind (p := fun l => peel (boundV l) = boundV l) (fun l h => ?_) (fun l h ih => ?_) l
  · rw [bound_step, if_pos (by rw [h]), h]
  · rw [bound_step, if_neg (by omega)]
    exact ih
theorem bound_sub (l : List Lk) : (boundV l).Sublist l := by
  refine peel_ind (p := fun l => (boundV l).Sublist l) (fun l h => ?_) (fun l h ih => ?_) l
  · rw [bound_step, if_pos (by rw [h])]
    exact List.Sublist.refl l
  · rw [bound_step, if_neg (by omega)]
    exact ih.trans List.filter_sublist
theorem fix_all {m : List Lk} (h : peel m = m) {x : Lk} (hx : x ∈ m) : 2 ≤ cntR m x.1 ∧ 2 ≤ cntC m x.2 := by
  have h1 : inB m x = true := by rw [← h] at hx; exact (List.mem_filter.1 hx).2
  unfold inB at h1
  simpa [Bool.and_eq_true] using h1
/-- Two that differ, of two. -/
theorem other_of {l : List Lk} (hd : l.Nodup) {p : Lk → Bool} (h : 2 ≤ (l.filter p).length) (x : Lk) : ∃ y ∈ l, p y = true ∧ y ≠ x := by
  have hn := hd.filter p
  match hf : l.filter p, h, hn with
  | [], h, _ => simp at h
  | [_], h, _ => simp at h
  | y :: z :: r, _, hn =>
    have hy : y ∈ l.filter p := by rw [hf]; simp
    have hz : z ∈ l.filter p := by rw [hf]; simp
    have hne : y ≠ z := by
      have := List.nodup_cons.1 hn
      intro e
      exact this.1 (by rw [e]; simp)
    by_cases e : y = x
    · exact ⟨z, (List.mem_filter.1 hz).1, (List.mem_filter.1 hz).2, fun e2 => hne (e.trans e2.symm)⟩
    · exact ⟨y, (List.mem_filter.1 hy).1, (List.mem_filter.1 hy).2, e⟩
theorem row_other {m : List Lk} (hd : m.Nodup) (h : peel m = m) {x : Lk} (hx : x ∈ m) : (∃ y ∈ m, y.1 = x.1 ∧ y ≠ x) ∧ ∃ y ∈ m, y.2 = x.2 ∧ y ≠ x := by
  obtain ⟨h1, h2⟩ := fix_all h hx
  obtain ⟨y, k1, k2, k3⟩ := other_of hd h1 x
  obtain ⟨z, g1, g2, g3⟩ := other_of hd h2 x
  exact ⟨⟨y, k1, of_decide_eq_true k2, k3⟩, ⟨z, g1, of_decide_eq_true g2, g3⟩⟩
/-- The greatest of a list, by a number. -/
theorem max_of (f : Lk → Int) : ∀ (m : List Lk), m ≠ [] → ∃ x ∈ m, ∀ y ∈ m, f y ≤ f x
  | [], h => absurd rfl h
  | [x], _ => ⟨x, by simp, fun y hy => by rw [List.mem_singleton.1 hy]; exact Int.le_refl _⟩
  | x :: y :: r, _ => by
    obtain ⟨z, hz, h⟩ := max_of f (y :: r) (by simp)
    by_cases hc : f z ≤ f x
    · refine ⟨x, by simp, fun u hu => ?_⟩
      rcases List.mem_cons.1 hu with rfl | hu
      · exact Int.le_refl _
      · exact Int.le_trans (h u hu) hc
    · refine ⟨z, List.mem_cons_of_mem _ hz, fun u hu => ?_⟩
      rcases List.mem_cons.1 hu with rfl | hu
      · omega
      · exact h u hu
/-- Links on a way that goes down and to the right alone are a forest. -/
theorem chain_forest {l : List Lk} (hd : l.Nodup) (h : ∀ x ∈ l, ∀ y ∈ l, (x.1 ≤ y.1 ∧ x.2 ≤ y.2) ∨ (y.1 ≤ x.1 ∧ y.2 ≤ x.2)) : boundV l = [] := by
  apply Classical.byContradiction
  intro hne
  have hs := bound_sub l
  have hf := bound_fix l
  have hm : (boundV l).Nodup := hd.sublist hs
  obtain ⟨x, hx, hmax⟩ := max_of (fun x => x.1 + x.2) _ hne
  obtain ⟨⟨y, y1, y2, y3⟩, ⟨z, z1, z2, z3⟩⟩ := row_other hm hf hx
  have m1 := hmax y y1
  have m2 := hmax z z1
  have ny : y.2 ≠ x.2 := fun e => y3 (Prod.ext y2 e)
  have nz : z.1 ≠ x.1 := fun e => z3 (Prod.ext e z2)
  rcases h y (hs.subset y1) z (hs.subset z1) with k | k <;> omega

/-! ### A forest has fewer links than rows and columns -/
def sl (l : List Lk) (f : Lk → Int) : Int := (l.map f).foldr (· + ·) 0
theorem sl_cons (x : Lk) (l : List Lk) (f : Lk → Int) : sl (x :: l) f = f x + sl l f := rfl
theorem sl_le {f g : Lk → Int} : ∀ (l : List Lk), (∀ x ∈ l, f x ≤ g x) → sl l f ≤ sl l g
  | [], _ => Int.le_refl _
  | x :: l, h => by
    rw [sl_cons, sl_cons]
    have := h x (by simp)
    have := sl_le l fun y hy => h y (List.mem_cons_of_mem _ hy)
    omega
theorem sl_add (f g : Lk → Int) : ∀ (l : List Lk), sl l (fun x => f x + g x) = sl l f + sl l g
  | [] => rfl
  | x :: l => by rw [sl_cons, sl_cons, sl_cons, sl_add f g l]; omega
theorem sl_filter (p : Lk → Bool) : ∀ (l : List Lk), sl l (fun x => if p x = true then 1 else 0) = (l.filter p).length
  | [] => rfl
  | x :: l => by
    rw [sl_cons, sl_filter p l, List.filter_cons]
    split
    · rw [List.length_cons]; omega
    · omega
theorem sl_ones : ∀ (l : List Lk), sl l (fun _ => 1) = l.length
  | [] => rfl
  | x :: l => by rw [sl_cons, sl_ones l, List.length_cons]; omega
theorem cntR_cons (x : Lk) (l : List Lk) (r : Int) : (cntR (x :: l) r : Int) = cntR l r + if x.1 = r then 1 else 0 := by
  unfold cntR
  rw [List.filter_cons]
  by_cases h : x.1 = r
  · rw [if_pos (by simpa using h), if_pos h, List.length_cons]; omega
  · rw [if_neg (by simpa using h), if_neg h]; omega
theorem cntC_cons (x : Lk) (l : List Lk) (r : Int) : (cntC (x :: l) r : Int) = cntC l r + if x.2 = r then 1 else 0 := by
  unfold cntC
  rw [List.filter_cons]
  by_cases h : x.2 = r
  · rw [if_pos (by simpa using h), if_pos h, List.length_cons]; omega
  · rw [if_neg (by simpa using h), if_neg h]; omega
theorem sl_rows (f : Int → Int) (R : Nat) : ∀ (l : List Lk), (∀ x ∈ l, 0 ≤ x.1 ∧ x.1 < R) → sl l (fun x => f x.1) = sg R fun r => f r * cntR l r
  | [], _ => by
    refine ((sg_congr R fun r _ => ?_).trans (sg_zero R)).symm
    show f r * ((0 : Nat) : Int) = 0
    simp
  | x :: l, h => by
    have hx := h x (by simp)
    obtain ⟨k, hk⟩ : ∃ k : Nat, x.1 = k := ⟨x.1.toNat, by omega⟩
    rw [sl_cons, sl_rows f R l fun y hy => h y (List.mem_cons_of_mem _ hy)]
    have e : sg R (fun r => f r * cntR (x :: l) r) = sg R (fun r => f r * cntR l r + if r = k then f k else 0) := sg_congr R fun r _ => by
      rw [cntR_cons, Int.mul_add]
      congr 1
      by_cases hr : r = k
      · subst hr; rw [if_pos hk, if_pos rfl, Int.mul_one]
      · rw [if_neg (by omega), if_neg hr, Int.mul_zero]
    rw [e, sg_add, sg_one, if_pos (by omega), hk]
    omega
theorem sl_cols (f : Int → Int) (R : Nat) : ∀ (l : List Lk), (∀ x ∈ l, 0 ≤ x.2 ∧ x.2 < R) → sl l (fun x => f x.2) = sg R fun r => f r * cntC l r
  | [], _ => by
    refine ((sg_congr R fun r _ => ?_).trans (sg_zero R)).symm
    show f r * ((0 : Nat) : Int) = 0
    simp
  | x :: l, h => by
    have hx := h x (by simp)
    obtain ⟨k, hk⟩ : ∃ k : Nat, x.2 = k := ⟨x.2.toNat, by omega⟩
    rw [sl_cons, sl_cols f R l fun y hy => h y (List.mem_cons_of_mem _ hy)]
    have e : sg R (fun r => f r * cntC (x :: l) r) = sg R (fun r => f r * cntC l r + if r = k then f k else 0) := sg_congr R fun r _ => by
      rw [cntC_cons, Int.mul_add]
      congr 1
      by_cases hr : r = k
      · subst hr; rw [if_pos hk, if_pos rfl, Int.mul_one]
      · rw [if_neg (by omega), if_neg hr, Int.mul_zero]
    rw [e, sg_add, sg_one, if_pos (by omega), hk]
    omega
def ind (p : Prop) [Decidable p] : Int := if p then 1 else 0
theorem ind_01 (p : Prop) [Decidable p] : 0 ≤ ind p ∧ ind p ≤ 1 := by unfold ind; split <;> omega
theorem ind_t {p : Prop} [Decidable p] (h : p) : ind p = 1 := if_pos h
theorem ind_f {p : Prop} [Decidable p] (h : ¬ p) : ind p = 0 := if_neg h
/-- How many rows and columns have a link. -/
def usedR (R : Nat) (l : List Lk) : Int := sg R fun r => ind (0 < cntR l r)
def usedC (C : Nat) (l : List Lk) : Int := sg C fun c => ind (0 < cntC l c)
structure InBox (R C : Nat) (l : List Lk) : Prop where
  r : ∀ x ∈ l, 0 ≤ x.1 ∧ x.1 < R
  c : ∀ x ∈ l, 0 ≤ x.2 ∧ x.2 < C
theorem InBox.peel {R C : Nat} {l : List Lk} (h : InBox R C l) : InBox R C (peel l) :=
  ⟨fun x hx => h.r x (List.mem_filter.1 hx).1, fun x hx => h.c x (List.mem_filter.1 hx).1⟩
theorem cnt_pos {l : List Lk} {x : Lk} (hx : x ∈ l) : 0 < cntR l x.1 ∧ 0 < cntC l x.2 :=
  ⟨List.length_pos_of_mem (List.mem_filter.2 ⟨hx, decide_eq_true rfl⟩), List.length_pos_of_mem (List.mem_filter.2 ⟨hx, decide_eq_true rfl⟩)⟩
/-- A row with one link has none behind the peeling. -/
theorem peel_row {l : List Lk} {r : Int} (h : cntR l r ≤ 1) : cntR (peel l) r = 0 := by
  apply Classical.byContradiction
  intro h0
  unfold cntR at h0
  obtain ⟨x, hx⟩ := List.exists_mem_of_length_pos (Nat.pos_of_ne_zero h0)
  obtain ⟨h1, h2⟩ := List.mem_filter.1 hx
  have h3 := (List.mem_filter.1 h1).2
  unfold inB at h3
  simp only [Bool.and_eq_true, decide_eq_true_eq] at h3
  have h4 : x.1 = r := of_decide_eq_true h2
  rw [h4] at h3
  omega
theorem peel_col {l : List Lk} {r : Int} (h : cntC l r ≤ 1) : cntC (peel l) r = 0 := by
  apply Classical.byContradiction
  intro h0
  unfold cntC at h0
  obtain ⟨x, hx⟩ := List.exists_mem_of_length_pos (Nat.pos_of_ne_zero h0)
  obtain ⟨h1, h2⟩ := List.mem_filter.1 hx
  have h3 := (List.mem_filter.1 h1).2
  unfold inB at h3
  simp only [Bool.and_eq_true, decide_eq_true_eq] at h3
  have h4 : x.2 = r := of_decide_eq_true h2
  rw [h4] at h3
  omega
/-- How many rows, columns, have just one link. -/
def oneR (R : Nat) (l : List Lk) : Int := sg R fun r => ind (cntR l r = 1)
def oneC (C : Nat) (l : List Lk) : Int := sg C fun c => ind (cntC l c = 1)
theorem used_one {R C : Nat} (l : List Lk) : oneR R l + usedR R (peel l) ≤ usedR R l ∧ oneC C l + usedC C (peel l) ≤ usedC C l := by
  unfold oneR usedR oneC usedC
  rw [← sg_add, ← sg_add]
  refine ⟨sg_le R fun r _ => ?_, sg_le C fun c _ => ?_⟩
  · rcases Nat.lt_trichotomy (cntR l r) 1 with h | h | h
    · rw [ind_f (by omega : ¬ cntR l r = 1), ind_f (by rw [peel_row (by omega)]; omega), ind_f (by omega)]; omega
    · rw [ind_t h, ind_f (by rw [peel_row (by omega)]; omega), ind_t (by omega)]; omega
    · have := ind_01 (0 < cntR (peel l) r)
      rw [ind_f (by omega : ¬ cntR l r = 1), ind_t (by omega : 0 < cntR l r)]; omega
  · rcases Nat.lt_trichotomy (cntC l c) 1 with h | h | h
    · rw [ind_f (by omega : ¬ cntC l c = 1), ind_f (by rw [peel_col (by omega)]; omega), ind_f (by omega)]; omega
    · rw [ind_t h, ind_f (by rw [peel_col (by omega)]; omega), ind_t (by omega)]; omega
    · have := ind_01 (0 < cntC (peel l) c)
      rw [ind_f (by omega : ¬ cntC l c = 1), ind_t (by omega : 0 < cntC l c)]; omega
theorem sl_oneR {R C : Nat} {l : List Lk} (h : InBox R C l) : sl l (fun x => ind (cntR l x.1 = 1)) = oneR R l ∧ sl l (fun x => ind (cntC l x.2 = 1)) = oneC C l := by
  refine ⟨(sl_rows (fun r => ind (cntR l r = 1)) R l h.r).trans (sg_congr R fun r _ => ?_), (sl_cols (fun r => ind (cntC l r = 1)) C l h.c).trans (sg_congr C fun r _ => ?_)⟩
  · by_cases e : cntR l r = 1
    · rw [ind_t e, e]; rfl
    · rw [ind_f e]; omega
  · by_cases e : cntC l r = 1
    · rw [ind_t e, e]; rfl
    · rw [ind_f e]; omega
theorem peel_count {R C : Nat} {l : List Lk} (h : InBox R C l) : (l.length : Int) ≤ (peel l).length + oneR R l + oneC C l := by
  obtain ⟨e1, e2⟩ := sl_oneR h
  have e3 := sl_filter (inB l) l
  have e4 : (l.length : Int) = sl l fun _ => 1 := (sl_ones l).symm
  have e5 : ((peel l).length : Int) = sl l fun x => if inB l x = true then 1 else 0 := e3.symm
  rw [e4, e5, ← e1, ← e2, ← sl_add, ← sl_add]
  refine sl_le l fun x hx => ?_
  obtain ⟨p1, p2⟩ := cnt_pos hx
  have i1 := ind_01 (cntR l x.1 = 1)
  have i2 := ind_01 (cntC l x.2 = 1)
  by_cases hb : inB l x = true
  · rw [if_pos hb]; omega
  · rw [if_neg hb]
    unfold inB at hb
    simp only [Bool.and_eq_true, decide_eq_true_eq] at hb
    by_cases k : cntR l x.1 = 1
    · rw [ind_t k]; omega
    · have k2 : cntC l x.2 = 1 := by omega
      rw [ind_t k2]; omega
theorem used_le (R C : Nat) (l : List Lk) : 0 ≤ usedR R l ∧ usedR R l ≤ R ∧ 0 ≤ usedC C l ∧ usedC C l ≤ C := by
  have one : ∀ n : Nat, sg n (fun _ => 1) = n := by
    intro n
    induction n with
    | zero => rfl
    | succ n ih => show sg n (fun _ => 1) + 1 = _; rw [ih]; omega
  refine ⟨sg_nonneg R fun r _ => (ind_01 _).1, ?_, sg_nonneg C fun r _ => (ind_01 _).1, ?_⟩
  · have := sg_le R fun r (_ : r < R) => (ind_01 (0 < cntR l r)).2
    rw [one] at this
    exact this
  · have := sg_le C fun r (_ : r < C) => (ind_01 (0 < cntC l r)).2
    rw [one] at this
    exact this
/-- The last links: one less than the rows and columns that they use. -/
theorem last_lt {R C : Nat} {l : List Lk} (h : InBox R C l) (he : peel l = []) (hne : l ≠ []) : (l.length : Int) < usedR R l + usedC C l := by
  obtain ⟨e1, e2⟩ := sl_oneR h
  obtain ⟨u1, u2⟩ := used_one (R := R) (C := C) l
  have hall : ∀ x ∈ l, cntR l x.1 = 1 ∨ cntC l x.2 = 1 := fun x hx => by
    obtain ⟨p1, p2⟩ := cnt_pos hx
    have hb : ¬ inB l x = true := fun hb => by
      have : x ∈ peel l := List.mem_filter.2 ⟨hx, hb⟩
      rw [he] at this
      simp at this
    unfold inB at hb
    simp only [Bool.and_eq_true, decide_eq_true_eq] at hb
    omega
  have e4 : (l.length : Int) = sl l fun _ => 1 := (sl_ones l).symm
  have hU := used_le R C (peel l)
  by_cases hr : ∀ x ∈ l, cntR l x.1 = 1
  · have h1 : (l.length : Int) ≤ oneR R l := by
      rw [e4, ← e1]
      exact sl_le l fun x hx => by rw [ind_t (hr x hx)]; exact Int.le_refl _
    obtain ⟨x, hx⟩ := List.exists_mem_of_ne_nil l hne
    have hc := h.c x hx
    obtain ⟨k, hk⟩ : ∃ k : Nat, x.2 = k := ⟨x.2.toNat, by omega⟩
    have h2 : 1 ≤ usedC C l := by
      have := sg_at C (f := fun c => ind (0 < cntC l c)) (fun c _ => (ind_01 _).1) k (by omega)
      have h3 : ind (0 < cntC l (k : Int)) = 1 := ind_t (by rw [← hk]; exact (cnt_pos hx).2)
      unfold usedC
      omega
    omega
  · obtain ⟨x, hx⟩ := Classical.not_forall.1 hr
    obtain ⟨hx, hx2⟩ := Classical.not_imp.1 hx
    have hrx := h.r x hx
    obtain ⟨k, hk⟩ : ∃ k : Nat, x.1 = k := ⟨x.1.toNat, by omega⟩
    have h1 : (l.length : Int) ≤ oneR R l + oneC C l := by
      have := peel_count h
      rw [he] at this
      simpa using this
    have h2 : oneR R l < usedR R l := by
      refine sg_lt R (fun r _ => ?_) (k := k) (by omega) ?_
      · by_cases e : cntR l r = 1
        · rw [ind_t e, ind_t (by omega)]; omega
        · rw [ind_f e]; exact (ind_01 _).1
      · rw [ind_f (by rw [← hk]; exact hx2), ind_t (by rw [← hk]; exact (cnt_pos hx).1)]; omega
    omega
/-- A forest has fewer links than there are rows and columns. -/
theorem forest_lt {R C : Nat} (hR : 0 < R) {l : List Lk} (h : InBox R C l) (hb : boundV l = []) : l.length < R + C := by
  by_cases h0 : l = []
  · rw [h0]; simp; omega
  have key : InBox R C l → boundV l = [] → l ≠ [] → (l.length : Int) < usedR R l + usedC C l := by
    refine peel_ind (p := fun l => InBox R C l → boundV l = [] → l ≠ [] → (l.length : Int) < usedR R l + usedC C l) (fun l hp _ hb hne => ?_) (fun l hp ih hin hb hne => ?_) l
    · rw [bound_step, if_pos (by rw [hp])] at hb
      exact absurd hb hne
    · rw [bound_step, if_neg (by omega)] at hb
      by_cases h1 : peel l = []
      · exact last_lt hin h1 hne
      · have h2 := ih hin.peel hb h1
        have h3 := peel_count hin
        obtain ⟨u1, u2⟩ := used_one (R := R) (C := C) l
        omega
  have h1 := key h hb h0
  have h2 := used_le R C l
  omega
end Go.OT
