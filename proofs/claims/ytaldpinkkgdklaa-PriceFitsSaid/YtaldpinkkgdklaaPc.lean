/- Sums over tables, plans between masses, prices and what they are worth. No program; no condition. -/
import Derived.Test.YtaldpinkkgdklaaVsA
namespace Go.OT
set_option linter.unusedSimpArgs false
set_option linter.unusedVariables false

def sg : Nat → (Nat → Int) → Int
  | 0, _ => 0
  | n + 1, f => sg n f + f n

theorem sg_congr {f g : Nat → Int} : ∀ (n : Nat), (∀ i, i < n → f i = g i) → sg n f = sg n g
  | 0, _ => rfl
  | n + 1, h => by simp only [sg]; rw [sg_congr n fun i hi => h i (by omega), h n (by omega)]
theorem sg_le {f g : Nat → Int} : ∀ (n : Nat), (∀ i, i < n → f i ≤ g i) → sg n f ≤ sg n g
  | 0, _ => Int.le_refl _
  | n + 1, h => by
    have h1 := sg_le n fun i hi => h i (by omega)
    have h2 := h n (by omega)
    simp only [sg]; omega
theorem sg_zero : ∀ (n : Nat), sg n (fun _ => 0) = 0
  | 0 => rfl
  | n + 1 => by simp only [sg, sg_zero n]; rfl
theorem sg_nonneg {f : Nat → Int} (n : Nat) (h : ∀ i, i < n → 0 ≤ f i) : 0 ≤ sg n f := by
  have := sg_le (f := fun _ => 0) (g := f) n h
  rwa [sg_zero] at this
theorem sg_add (f g : Nat → Int) : ∀ (n : Nat), sg n (fun i => f i + g i) = sg n f + sg n g
  | 0 => rfl
  | n + 1 => by simp only [sg, sg_add f g n]; omega
theorem sg_sub (f g : Nat → Int) : ∀ (n : Nat), sg n (fun i => f i - g i) = sg n f - sg n g
  | 0 => rfl
  | n + 1 => by simp only [sg, sg_sub f g n]; omega
theorem sg_mul (k : Int) (f : Nat → Int) : ∀ (n : Nat), sg n (fun i => k * f i) = k * sg n f
  | 0 => by simp [sg]
  | n + 1 => by simp only [sg, sg_mul k f n, Int.mul_add]
theorem sg_swap (m : Nat) (f : Nat → Nat → Int) : ∀ (n : Nat), sg n (fun i => sg m (fun j => f i j)) = sg m (fun j => sg n (fun i => f i j))
  | 0 => by simp only [sg]; exact (sg_zero m).symm
  | n + 1 => by
    simp only [sg]
    rw [sg_swap m f n, ← sg_add]
theorem sg_one (x : Int) (k : Nat) : ∀ (n : Nat), sg n (fun i => if i = k then x else 0) = if k < n then x else 0
  | 0 => by simp [sg]
  | n + 1 => by
    simp only [sg, sg_one x k n]
    by_cases h1 : n = k
    · subst h1
      rw [if_neg (Nat.lt_irrefl _), if_pos rfl, if_pos (Nat.lt_succ_self _)]; omega
    · rw [if_neg h1]
      by_cases h2 : k < n
      · rw [if_pos h2, if_pos (by omega)]; omega
      · rw [if_neg h2, if_neg (by omega)]; omega
theorem sg_at {f : Nat → Int} : ∀ (n : Nat), (∀ i, i < n → 0 ≤ f i) → ∀ k, k < n → f k ≤ sg n f
  | 0, _, k, hk => by omega
  | n + 1, h, k, hk => by
    simp only [sg]
    have h0 := sg_nonneg n fun i hi => h i (by omega)
    have h1 := h n (by omega)
    rcases Nat.lt_or_ge k n with h2 | h2
    · have := sg_at n (fun i hi => h i (by omega)) k h2; omega
    · obtain rfl : k = n := by omega
      omega
theorem sg_all0 {f : Nat → Int} (n : Nat) (h : ∀ i, i < n → 0 ≤ f i) (hs : sg n f = 0) (k : Nat) (hk : k < n) : f k = 0 := by
  have h1 := sg_at n h k hk
  have h2 := h k hk
  omega
/-- A sum at which one number is another one. -/
theorem sg_upd {f g : Nat → Int} {k n : Nat} (hk : k < n) (h : ∀ i, i < n → i ≠ k → g i = f i) : sg n g = sg n f + (g k - f k) := by
  have h1 : sg n g = sg n (fun i => f i + if i = k then g k - f k else 0) := sg_congr n fun i hi => by
    by_cases he : i = k
    · subst he; rw [if_pos rfl]; omega
    · rw [if_neg he, h i hi he]; omega
  rw [h1, sg_add, sg_one, if_pos hk]
theorem sg_lt {f g : Nat → Int} (n : Nat) (h : ∀ i, i < n → f i ≤ g i) {k : Nat} (hk : k < n) (hlt : f k < g k) : sg n f < sg n g := by
  have h1 := sg_at n (f := fun i => g i - f i) (fun i hi => by have := h i hi; omega) k hk
  rw [sg_sub] at h1
  omega

/-- The cost of a table at costs c. -/
def cst (R C : Nat) (c p : Nat → Nat → Int) : Int := sg R fun i => sg C fun j => c i j * p i j
/-- The sums. -/
def rowS (C : Nat) (p : Nat → Nat → Int) (i : Nat) : Int := sg C fun j => p i j
def colS (R : Nat) (p : Nat → Nat → Int) (j : Nat) : Int := sg R fun i => p i j
def worth (R C : Nat) (a b u v : Nat → Int) : Int := sg R (fun i => a i * u i) + sg C (fun j => b j * v j)

theorem cst_prices (R C : Nat) (p : Nat → Nat → Int) (u v : Nat → Int) : cst R C (fun i j => u i + v j) p = worth R C (rowS C p) (colS R p) u v := by
  unfold cst worth
  have h1 : (sg R fun i => sg C fun j => (u i + v j) * p i j) = sg R (fun i => sg C (fun j => u i * p i j) + sg C (fun j => v j * p i j)) := sg_congr R fun i _ => by
    rw [← sg_add]
    exact sg_congr C fun j _ => Int.add_mul ..
  rw [h1, sg_add]
  congr 1
  · exact sg_congr R fun i _ => by rw [sg_mul, Int.mul_comm]; rfl
  · rw [sg_swap]
    exact sg_congr C fun j _ => by rw [sg_mul, Int.mul_comm]; rfl

theorem worth_congr {R C : Nat} {a a' b b' u v : Nat → Int} (ha : ∀ i, i < R → a i = a' i) (hb : ∀ j, j < C → b j = b' j) : worth R C a b u v = worth R C a' b' u v := by
  unfold worth
  rw [sg_congr R fun i hi => by rw [ha i hi], sg_congr C fun j hj => by rw [hb j hj]]

structure IsPlan (R C : Nat) (a b : Nat → Int) (p : Nat → Nat → Int) : Prop where
  nn : ∀ i j, i < R → j < C → 0 ≤ p i j
  row : ∀ i, i < R → rowS C p i = a i
  col : ∀ j, j < C → colS R p j = b j

def Holds (R C : Nat) (c : Nat → Nat → Int) (u v : Nat → Int) : Prop := ∀ i j, i < R → j < C → u i + v j ≤ c i j
def Tight (R C : Nat) (c p : Nat → Nat → Int) (u v : Nat → Int) : Prop := ∀ i j, i < R → j < C → 0 < p i j → u i + v j = c i j

section
variable {R C : Nat} {a b : Nat → Int} {c p : Nat → Nat → Int} {u v : Nat → Int}
theorem IsPlan.worth_le (hp : IsPlan R C a b p) (h : Holds R C c u v) : worth R C a b u v ≤ cst R C c p := by
  rw [← worth_congr (fun i hi => hp.row i hi) (fun j hj => hp.col j hj), ← cst_prices]
  exact sg_le R fun i hi => sg_le C fun j hj => Int.mul_le_mul_of_nonneg_right (h i j hi hj) (hp.nn i j hi hj)
theorem IsPlan.worth_eq (hp : IsPlan R C a b p) (h : Tight R C c p u v) : worth R C a b u v = cst R C c p := by
  rw [← worth_congr (fun i hi => hp.row i hi) (fun j hj => hp.col j hj), ← cst_prices]
  refine sg_congr R fun i hi => sg_congr C fun j hj => ?_
  show (u i + v j) * p i j = c i j * p i j
  by_cases h0 : 0 < p i j
  · rw [h i j hi hj h0]
  · have := hp.nn i j hi hj
    have h1 : p i j = 0 := by omega
    rw [h1, Int.mul_zero, Int.mul_zero]
theorem IsPlan.tight_of (hp : IsPlan R C a b p) (h : Holds R C c u v) (he : cst R C c p = worth R C a b u v) : Tight R C c p u v := by
  rw [← worth_congr (fun i hi => hp.row i hi) (fun j hj => hp.col j hj), ← cst_prices] at he
  intro i j hi hj h0
  have h1 : ∀ i j, i < R → j < C → 0 ≤ c i j * p i j - (u i + v j) * p i j := fun i j hi hj => by
    have := Int.mul_le_mul_of_nonneg_right (h i j hi hj) (hp.nn i j hi hj); omega
  have h2 : sg R (fun i => sg C fun j => c i j * p i j - (u i + v j) * p i j) = 0 := by
    rw [sg_congr R fun i _ => sg_sub (fun j => c i j * p i j) (fun j => (u i + v j) * p i j) C, sg_sub]
    dsimp only [cst] at he; omega
  have h3 := sg_all0 R (fun i hi => sg_nonneg C fun j hj => h1 i j hi hj) h2 i hi
  have h4 := sg_all0 C (fun j hj => h1 i j hi hj) h3 j hj
  have h5 : c i j * p i j = (u i + v j) * p i j := by omega
  have h6 := Int.eq_of_mul_eq_mul_right (by omega : p i j ≠ 0) h5
  exact h6.symm
/-- A plan with tight prices costs at most as much as any other one. -/
theorem IsPlan.least (hp : IsPlan R C a b p) (h : Holds R C c u v) (ht : Tight R C c p u v) {q : Nat → Nat → Int} (hq : IsPlan R C a b q) : cst R C c p ≤ cst R C c q := by
  rw [← hp.worth_eq ht]; exact hq.worth_le h
end

/-! ### Plans that move a part -/
structure IsPart (R C : Nat) (a b : Nat → Int) (p : Nat → Nat → Int) : Prop where
  nn : ∀ i j, i < R → j < C → 0 ≤ p i j
  row : ∀ i, i < R → rowS C p i ≤ a i
  col : ∀ j, j < C → colS R p j ≤ b j
def units (R C : Nat) (p : Nat → Nat → Int) : Int := sg R (rowS C p)
theorem units_col (R C : Nat) (p : Nat → Nat → Int) : units R C p = sg C (colS R p) := sg_swap C p R

/-- Costs r of coming to rows, s of coming to columns, at which the last unit cost V. -/
structure Good (R C : Nat) (a b : Nat → Int) (c p : Nat → Nat → Int) (r s : Nat → Int) (V : Int) : Prop where
  hold : ∀ i j, i < R → j < C → s j ≤ r i + c i j
  tight : ∀ i j, i < R → j < C → 0 < p i j → s j = r i + c i j
  rnn : ∀ i, i < R → 0 ≤ r i
  rleft : ∀ i, i < R → rowS C p i < a i → r i = 0
  sle : ∀ j, j < C → s j ≤ V
  sleft : ∀ j, j < C → colS R p j < b j → s j = V

section
variable {R C : Nat} {a b : Nat → Int} {c p : Nat → Nat → Int} {r s : Nat → Int} {V : Int}
theorem cst_part (R C : Nat) (q : Nat → Nat → Int) (r s : Nat → Int) (V : Int) : cst R C (fun i j => - r i + s j) q = V * units R C q - sg R (fun i => rowS C q i * r i) - sg C (fun j => colS R q j * (V - s j)) := by
  rw [cst_prices, units_col]
  unfold worth
  have h1 : sg R (fun i => rowS C q i * - r i) = - sg R (fun i => rowS C q i * r i) := by
    have : sg R (fun i => rowS C q i * - r i) = sg R (fun i => (-1) * (rowS C q i * r i)) := sg_congr R fun i _ => by
      rw [Int.mul_neg, Int.neg_mul, Int.one_mul]
    rw [this, sg_mul]; omega
  have h2 : sg C (fun j => colS R q j * (V - s j)) = V * sg C (colS R q) - sg C (fun j => colS R q j * s j) := by
    rw [← sg_mul, ← sg_sub]
    exact sg_congr C fun j _ => by rw [Int.mul_sub, Int.mul_comm (colS R q j) V]
  rw [h1, h2]; omega

/-- What a plan with good costs costs. -/
theorem Good.cost (h : Good R C a b c p r s V) (hp : IsPart R C a b p) : cst R C c p = V * units R C p - sg R (fun i => a i * r i) - sg C (fun j => b j * (V - s j)) := by
  have h1 : cst R C c p = cst R C (fun i j => - r i + s j) p := by
    refine sg_congr R fun i hi => sg_congr C fun j hj => ?_
    by_cases h0 : 0 < p i j
    · have := h.tight i j hi hj h0
      rw [show c i j = - r i + s j by omega]
    · have := hp.nn i j hi hj
      rw [show p i j = 0 by omega, Int.mul_zero, Int.mul_zero]
  rw [h1, cst_part R C p r s V]
  congr 1
  · congr 1
    refine sg_congr R fun i hi => ?_
    by_cases h0 : rowS C p i < a i
    · rw [h.rleft i hi h0, Int.mul_zero, Int.mul_zero]
    · have := hp.row i hi
      rw [show rowS C p i = a i by omega]
  · refine sg_congr C fun j hj => ?_
    by_cases h0 : colS R p j < b j
    · rw [h.sleft j hj h0, Int.sub_self, Int.mul_zero, Int.mul_zero]
    · have := hp.col j hj
      rw [show colS R p j = b j by omega]
/-- No plan costs less than the good costs tell. -/
theorem Good.bound (h : Good R C a b c p r s V) {q : Nat → Nat → Int} (hq : IsPart R C a b q) : V * units R C q - sg R (fun i => a i * r i) - sg C (fun j => b j * (V - s j)) ≤ cst R C c q := by
  have h1 : cst R C (fun i j => - r i + s j) q ≤ cst R C c q := sg_le R fun i hi => sg_le C fun j hj =>
    Int.mul_le_mul_of_nonneg_right (by have := h.hold i j hi hj; show - r i + s j ≤ c i j; omega) (hq.nn i j hi hj)
  rw [cst_part R C q r s V] at h1
  have h2 : sg R (fun i => rowS C q i * r i) ≤ sg R (fun i => a i * r i) := sg_le R fun i hi => Int.mul_le_mul_of_nonneg_right (hq.row i hi) (h.rnn i hi)
  have h3 : sg C (fun j => colS R q j * (V - s j)) ≤ sg C (fun j => b j * (V - s j)) := sg_le C fun j hj => Int.mul_le_mul_of_nonneg_right (hq.col j hj) (by have := h.sle j hj; omega)
  omega
/-- A plan with good costs is a cheapest one of its size; a plan of another size costs as many times V more at least. -/
theorem Good.least (h : Good R C a b c p r s V) (hp : IsPart R C a b p) {q : Nat → Nat → Int} (hq : IsPart R C a b q) : cst R C c p + V * (units R C q - units R C p) ≤ cst R C c q := by
  have h1 := h.cost hp
  have h2 := h.bound hq
  rw [Int.mul_sub]; omega
end

/-- Different numbers below n are at most n. -/
theorem pigeon : ∀ (n k : Nat) (f : Nat → Nat), (∀ i, i < k → f i < n) → (∀ i j, i < j → j < k → f i ≠ f j) → k ≤ n
  | 0, k, f, h, _ => by
    rcases Nat.eq_zero_or_pos k with h0 | h0
    · omega
    · have := h 0 h0; omega
  | n + 1, k, f, h, hd => by
    by_cases hx : ∃ m, m < k ∧ f m = n
    · obtain ⟨m, hm, hfm⟩ := hx
      have h1 : ∀ i, i < k - 1 → (fun i => if i < m then f i else f (i + 1)) i < n := fun i hi => by
        show (if i < m then f i else f (i + 1)) < n
        split
        · rename_i hl
          have h2 := h i (by omega); have h3 := hd i m hl hm; omega
        · rename_i hl
          have h2 := h (i + 1) (by omega); have h3 := hd m (i + 1) (by omega) (by omega); omega
      have := pigeon n (k - 1) _ h1 fun i j hij hj => by
        show (if i < m then f i else f (i + 1)) ≠ (if j < m then f j else f (j + 1))
        split <;> split
        · exact hd i j hij (by omega)
        · exact hd i (j + 1) (by omega) (by omega)
        · omega
        · exact hd (i + 1) (j + 1) (by omega) (by omega)
      omega
    · have h1 : ∀ i, i < k → f i < n := fun i hi => by
        have h2 := h i hi
        have h3 : f i ≠ n := fun e => hx ⟨i, hi, e⟩
        omega
      have := pigeon n k f h1 hd
      omega
end Go.OT
