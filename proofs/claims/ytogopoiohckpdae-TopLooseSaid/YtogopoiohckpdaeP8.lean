/- Unit by unit: the costs of parts, the least at a waste, dumps. No program; no condition. -/
import Derived.Test.YtogopoiohckpdaeP1
namespace Go.OT
set_option linter.unusedSimpArgs false
set_option linter.unusedVariables false

/-- The plans on the way, what the next unit costs, what so many cost. -/
def stepP (a b : List Int) (c : List (List Int)) : Nat → List (List Int)
  | 0 => emptyV a b
  | k + 1 => (nextP a b c (stepP a b c k)).getD []
def nuV (a b : List Int) (c : List (List Int)) (k : Nat) : Int := nextN a b c (stepP a b c k)
def partV (a b : List Int) (c : List (List Int)) (k : Nat) : Int := sg k (nuV a b c)
def lastN (a b : List Int) (c : List (List Int)) : Nat → Int
  | 0 => 0
  | k + 1 => nuV a b c k
/-- The greatest number of units. -/
def maxU (a b : List Int) : Nat := (min (sumL a) (sumL b)).toNat

section
variable {a b : List Int} {c : List (List Int)}
theorem MC.sum_nn (h : MC a b c) : 0 ≤ sumL a ∧ 0 ≤ sumL b := ⟨sg_nonneg _ fun i hi => (h.ha.at hi).1, sg_nonneg _ fun i hi => (h.hb.at hi).1⟩

structure StepI (a b : List Int) (c : List (List Int)) (k : Nat) : Prop where
  way : Way2 a b c (stepP a b c k) (lastN a b c k)
  un : units a.length b.length (gt (stepP a b c k)) = k
  cs : cst a.length b.length (gt c) (gt (stepP a b c k)) = partV a b c k
theorem StepI.le {k : Nat} (h : StepI a b c k) : k ≤ maxU a b := by
  have h1 := h.way.part.units_le
  rw [h.un] at h1
  unfold maxU
  omega
/-- There is a next unit just below the greatest number. -/
theorem StepI.more {k : Nat} (hm : MC a b c) (h : StepI a b c k) : ¬ bestV a b c (stepP a b c k) < 0 ↔ k < maxU a b := by
  constructor
  · intro hb
    obtain ⟨p', h1, h2, h3, h4, h5, h6, h7⟩ := next_more hm.hc h.way hb
    have h8 := h2.part.units_le
    rw [h6, h.un] at h8
    unfold maxU
    omega
  · intro hk hb
    obtain ⟨_, _, h2⟩ := next_end hm.hc h.way hb
    have h3 := h.way.part.units_le
    rw [h.un] at h3
    unfold maxU at hk
    rcases h2 with h2 | h2
    · have e1 : units a.length b.length (gt (stepP a b c k)) = sumL a := sg_congr _ h2
      rw [h.un] at e1
      omega
    · have e1 : sg b.length (colS a.length (gt (stepP a b c k))) = sumL b := sg_congr _ h2
      rw [← units_col, h.un] at e1
      omega
theorem StepI.next {k : Nat} (hm : MC a b c) (h : StepI a b c k) (hk : k < maxU a b) : StepI a b c (k + 1) ∧ nextP a b c (stepP a b c k) = some (stepP a b c (k + 1)) ∧ lastN a b c k ≤ nuV a b c k ∧ 0 ≤ nuV a b c k ∧ nuV a b c k ≤ 99 := by
  obtain ⟨p', h1, h2, h3, h4, h5, h6, h7⟩ := next_more hm.hc h.way ((h.more hm).2 hk)
  have e : stepP a b c (k + 1) = p' := by
    show (nextP a b c (stepP a b c k)).getD [] = p'
    rw [h1]; rfl
  refine ⟨⟨?_, ?_, ?_⟩, by rw [e]; exact h1, h3, h4, h5⟩
  · rw [e]; exact h2
  · rw [e, h6, h.un]; omega
  · rw [e, h7, h.cs]
    rfl
theorem stepI (hm : MC a b c) : ∀ k, k ≤ maxU a b → StepI a b c k
  | 0, _ => ⟨hm.start, by show units _ _ (gt (emptyV a b)) = _; rw [gt_empty, units_zero]; rfl, by show cst _ _ _ (gt (emptyV a b)) = _; rw [gt_empty, cst_zero]; rfl⟩
  | k + 1, hk => ((stepI hm k (by omega)).next hm (by omega)).1
theorem nu_bnd (hm : MC a b c) {k : Nat} (hk : k < maxU a b) : 0 ≤ nuV a b c k ∧ nuV a b c k ≤ 99 := ((stepI hm k (by omega)).next hm hk).2.2.2
/-- The next unit is never cheaper. -/
theorem nu_succ (hm : MC a b c) {k : Nat} (hk : k + 1 < maxU a b) : nuV a b c k ≤ nuV a b c (k + 1) := ((stepI hm (k + 1) (by omega)).next hm hk).2.2.1
theorem nu_mono (hm : MC a b c) {k : Nat} : ∀ m, k ≤ m → m < maxU a b → nuV a b c k ≤ nuV a b c m
  | 0, h1, _ => by
    obtain rfl : k = 0 := by omega
    exact Int.le_refl _
  | m + 1, h1, h2 => by
    rcases Nat.lt_or_ge k (m + 1) with h3 | h3
    · exact Int.le_trans (nu_mono hm m (by omega) (by omega)) (nu_succ hm h2)
    · obtain rfl : k = m + 1 := by omega
      exact Int.le_refl _
theorem part_succ (a b : List Int) (c : List (List Int)) (k : Nat) : partV a b c (k + 1) = partV a b c k + nuV a b c k := rfl
theorem part_bnd (hm : MC a b c) : ∀ k, k ≤ maxU a b → 0 ≤ partV a b c k ∧ partV a b c k ≤ 99 * k
  | 0, _ => by simp [partV, sg]
  | k + 1, hk => by
    have h1 := part_bnd hm k (by omega)
    have h2 := nu_bnd hm (k := k) (by omega)
    rw [part_succ]
    omega
/-- No plan of so many units costs less. -/
theorem part_le (hm : MC a b c) {q : Nat → Nat → Int} (hq : IsPart a.length b.length (ga a) (ga b) q) {k : Nat} (hu : units a.length b.length q = k) : k ≤ maxU a b ∧ partV a b c k ≤ cst a.length b.length (gt c) q := by
  have h1 := hq.units_le
  have hk : k ≤ maxU a b := by unfold maxU; omega
  refine ⟨hk, ?_⟩
  have h2 := stepI hm k hk
  obtain ⟨r, s, hg, _⟩ := h2.way.good
  have h3 := hg.least h2.way.part hq
  rw [h2.un, hu, h2.cs, Int.sub_self, Int.mul_zero] at h3
  omega
theorem part_at (hm : MC a b c) {k : Nat} (hk : k ≤ maxU a b) : IsPart a.length b.length (ga a) (ga b) (gt (stepP a b c k)) ∧ units a.length b.length (gt (stepP a b c k)) = k ∧ cst a.length b.length (gt c) (gt (stepP a b c k)) = partV a b c k :=
  ⟨(stepI hm k hk).way.part, (stepI hm k hk).un, (stepI hm k hk).cs⟩

/-! ### The least at a waste -/
def objV (a b : List Int) (c : List (List Int)) (w : Int) (k : Nat) : Int := partV a b c k + w * (sumL a + sumL b - 2 * k)
theorem obj_succ (a b : List Int) (c : List (List Int)) (w : Int) (k : Nat) : objV a b c w (k + 1) = objV a b c w k + (nuV a b c k - 2 * w) := by
  unfold objV
  rw [part_succ]
  have : w * (sumL a + sumL b - 2 * ((k + 1 : Nat) : Int)) = w * (sumL a + sumL b - 2 * (k : Int)) - 2 * w := by
    rw [show sumL a + sumL b - 2 * ((k + 1 : Nat) : Int) = (sumL a + sumL b - 2 * (k : Int)) - 2 by omega, Int.mul_sub, Int.mul_comm w 2]
  omega
/-- Where a search stops: the first number at which it is enough, or there is no more. -/
def stopF (M : Nat) (en : Nat → Bool) : Nat → Nat → Nat
  | 0, k => k
  | n + 1, k => if M ≤ k ∨ en k = true then k else stopF M en n (k + 1)
def stopK (M : Nat) (en : Nat → Bool) : Nat := stopF M en (M + 1) 0
theorem stopF_spec (M : Nat) (en : Nat → Bool) : ∀ n k, k ≤ M → M < k + n → k ≤ stopF M en n k ∧ stopF M en n k ≤ M ∧ (∀ m, k ≤ m → m < stopF M en n k → en m = false) ∧ (stopF M en n k < M → en (stopF M en n k) = true)
  | 0, k, h1, h2 => by omega
  | n + 1, k, h1, h2 => by
    have e : stopF M en (n + 1) k = if M ≤ k ∨ en k = true then k else stopF M en n (k + 1) := rfl
    rw [e]
    by_cases h : M ≤ k ∨ en k = true
    · rw [if_pos h]
      exact ⟨Nat.le_refl _, h1, fun m h3 h4 => by omega, fun h3 => h.resolve_left (by omega)⟩
    · rw [if_neg h]
      have hen : en k = false := by
        cases he : en k with
        | false => rfl
        | true => exact absurd (.inr he) h
      have hkM : k < M := Nat.lt_of_not_le fun h2 => h (.inl h2)
      obtain ⟨g1, g2, g3, g4⟩ := stopF_spec M en n (k + 1) (by omega) (by omega)
      refine ⟨by omega, g2, fun m h3 h4 => ?_, g4⟩
      rcases Nat.lt_or_ge k m with h5 | h5
      · exact g3 m h5 h4
      · obtain rfl : m = k := by omega
        exact hen
theorem stopK_spec (M : Nat) (en : Nat → Bool) : stopK M en ≤ M ∧ (∀ m, m < stopK M en → en m = false) ∧ (stopK M en < M → en (stopK M en) = true) := by
  obtain ⟨_, h2, h3, h4⟩ := stopF_spec M en (M + 1) 0 (by omega) (by omega)
  exact ⟨h2, fun m hm => h3 m (by omega) hm, h4⟩
/-- The smallest and the greatest number with the least. -/
def fewK (a b : List Int) (c : List (List Int)) (w : Int) : Nat := stopK (maxU a b) fun k => decide (2 * w ≤ nuV a b c k)
def mostK (a b : List Int) (c : List (List Int)) (w : Int) : Nat := stopK (maxU a b) fun k => decide (2 * w < nuV a b c k)
def looseV (a b : List Int) (c : List (List Int)) (w : Int) : Int := objV a b c w (fewK a b c w)
theorem few_spec (hm : MC a b c) (w : Int) : fewK a b c w ≤ maxU a b ∧ (∀ k, k < fewK a b c w → nuV a b c k < 2 * w) ∧ ∀ k, fewK a b c w ≤ k → k < maxU a b → 2 * w ≤ nuV a b c k := by
  obtain ⟨h1, h2, h3⟩ := stopK_spec (maxU a b) fun k => decide (2 * w ≤ nuV a b c k)
  refine ⟨h1, fun k hk => ?_, fun k hk hkM => ?_⟩
  · have := of_decide_eq_false (h2 k hk); omega
  · have h4 : 2 * w ≤ nuV a b c (fewK a b c w) := of_decide_eq_true (h3 (Nat.lt_of_le_of_lt hk hkM))
    exact Int.le_trans h4 (nu_mono hm k hk hkM)
theorem most_spec (hm : MC a b c) (w : Int) : mostK a b c w ≤ maxU a b ∧ (∀ k, k < mostK a b c w → nuV a b c k ≤ 2 * w) ∧ ∀ k, mostK a b c w ≤ k → k < maxU a b → 2 * w < nuV a b c k := by
  obtain ⟨h1, h2, h3⟩ := stopK_spec (maxU a b) fun k => decide (2 * w < nuV a b c k)
  refine ⟨h1, fun k hk => ?_, fun k hk hkM => ?_⟩
  · have := of_decide_eq_false (h2 k hk); omega
  · have h4 : 2 * w < nuV a b c (mostK a b c w) := of_decide_eq_true (h3 (Nat.lt_of_le_of_lt hk hkM))
    exact Int.lt_of_lt_of_le h4 (nu_mono hm k hk hkM)
theorem obj_down {w : Int} {m : Nat} (h : ∀ k, k < m → nuV a b c k ≤ 2 * w) : ∀ d k, k + d = m → objV a b c w m ≤ objV a b c w k
  | 0, k, hk => by
    obtain rfl : k = m := by omega
    exact Int.le_refl _
  | d + 1, k, hk => by
    have h1 := obj_down h d (k + 1) (by omega)
    have h2 := h k (by omega)
    rw [obj_succ] at h1
    omega
theorem obj_up {w : Int} {m M : Nat} (h : ∀ k, m ≤ k → k < M → 2 * w ≤ nuV a b c k) : ∀ d, m + d ≤ M → objV a b c w m ≤ objV a b c w (m + d)
  | 0, _ => Int.le_refl _
  | d + 1, hd => by
    have h1 := obj_up h d (by omega)
    have h2 := h (m + d) (by omega) (by omega)
    have h3 := obj_succ a b c w (m + d)
    rw [show m + (d + 1) = m + d + 1 by omega, h3]
    omega
/-- The least, by the numbers of units: it is taken just from the smallest to the greatest of them. -/
theorem loose_obj (hm : MC a b c) (w : Int) {k : Nat} (hk : k ≤ maxU a b) : looseV a b c w ≤ objV a b c w k ∧ (objV a b c w k = looseV a b c w ↔ fewK a b c w ≤ k ∧ k ≤ mostK a b c w) := by
  obtain ⟨f1, f2, f3⟩ := few_spec hm w
  obtain ⟨m1, m2, m3⟩ := most_spec hm w
  have hfm : fewK a b c w ≤ mostK a b c w := by
    apply Classical.byContradiction
    intro h
    have h1 := f2 (mostK a b c w) (by omega)
    have h2 := m3 (mostK a b c w) (Nat.le_refl _) (by omega)
    omega
  have least : ∀ k, k ≤ maxU a b → looseV a b c w ≤ objV a b c w k := fun k hk => by
    rcases Nat.lt_or_ge k (fewK a b c w) with h | h
    · exact obj_down (fun k hk => Int.le_of_lt (f2 k hk)) (fewK a b c w - k) k (by omega)
    · have := obj_up f3 (k - fewK a b c w) (by omega)
      rwa [show fewK a b c w + (k - fewK a b c w) = k by omega] at this
  refine ⟨least k hk, fun he => ⟨?_, ?_⟩, fun ⟨h1, h2⟩ => ?_⟩
  · apply Classical.byContradiction
    intro h
    have h1 := f2 k (by omega)
    have h2 := least (k + 1) (by omega)
    rw [obj_succ] at h2
    omega
  · apply Classical.byContradiction
    intro h
    have h1 := m3 (k - 1) (by omega) (by omega)
    have h2 := least (k - 1) (by omega)
    have h3 := obj_succ a b c w (k - 1)
    rw [show k - 1 + 1 = k by omega] at h3
    omega
  · have h3 := least k hk
    have h4 : objV a b c w k ≤ looseV a b c w := by
      have : ∀ d, fewK a b c w + d ≤ mostK a b c w → objV a b c w (fewK a b c w + d) ≤ looseV a b c w := by
        intro d
        induction d with
        | zero => intro _; exact Int.le_refl _
        | succ d ih =>
          intro hd
          have h5 := ih (by omega)
          have h6 := m2 (fewK a b c w + d) (by omega)
          rw [show fewK a b c w + (d + 1) = fewK a b c w + d + 1 by omega, obj_succ]
          omega
      have := this (k - fewK a b c w) (by omega)
      rwa [show fewK a b c w + (k - fewK a b c w) = k by omega] at this
    omega
/-- No loose plan costs less. -/
theorem loose_le (hm : MC a b c) (w : Int) {q : Nat → Nat → Int} (hq : IsPart a.length b.length (ga a) (ga b) q) : looseV a b c w ≤ cst a.length b.length (gt c) q + w * (sumL a + sumL b - 2 * units a.length b.length q) := by
  have h1 := hq.units_le
  obtain ⟨k, hk⟩ := Int.eq_ofNat_of_zero_le h1.1
  obtain ⟨h2, h3⟩ := part_le hm hq hk
  have h4 := (loose_obj hm w h2).1
  unfold objV at h4
  rw [hk]
  omega
theorem loose_at (hm : MC a b c) (w : Int) {k : Nat} (h1 : fewK a b c w ≤ k) (h2 : k ≤ mostK a b c w) : cst a.length b.length (gt c) (gt (stepP a b c k)) + w * (sumL a + sumL b - 2 * k) = looseV a b c w := by
  have hk : k ≤ maxU a b := Nat.le_trans h2 (most_spec hm w).1
  rw [(part_at hm hk).2.2, ← ((loose_obj hm w hk).2.2 ⟨h1, h2⟩)]
  rfl
end

/-! ### Dumps -/
section
variable {R C : Nat}
/-- Masses and costs with a dump on both sides. -/
def withD (R : Nat) (a : Nat → Int) (x : Int) (i : Nat) : Int := if i < R then a i else x
def costD (R C : Nat) (c : Nat → Nat → Int) (d e : Int) (i j : Nat) : Int := if i < R then (if j < C then c i j else d) else (if j < C then d else e)
theorem sg_withD (n : Nat) (a : Nat → Int) (x : Int) : sg (n + 1) (withD n a x) = sg n a + x := by
  show sg n (withD n a x) + withD n a x n = _
  rw [sg_congr (f := withD n a x) (g := a) n fun i hi => if_pos hi]
  congr 1
  exact if_neg (Nat.lt_irrefl n)
variable {a b : Nat → Int} {c Q : Nat → Nat → Int} {m d e : Int}
/-- What a plan with dumps is inside. -/
theorem dump_in (hQ : IsPlan (R + 1) (C + 1) (withD R a (sg C b - m)) (withD C b (sg R a - m)) Q) : IsPart R C a b Q ∧ Q R C = units R C Q - m ∧ 0 ≤ Q R C ∧
    cst (R + 1) (C + 1) (costD R C c d e) Q = cst R C c Q + d * (sg R a + sg C b - 2 * units R C Q) + e * (units R C Q - m) := by
  have hrow : ∀ i, i < R → rowS C Q i + Q i C = a i := fun i hi => by
    have := hQ.row i (by omega)
    rw [show withD R a (sg C b - m) i = a i from if_pos hi] at this
    exact this
  have hcol : ∀ j, j < C → colS R Q j + Q R j = b j := fun j hj => by
    have := hQ.col j (by omega)
    rw [show withD C b (sg R a - m) j = b j from if_pos hj] at this
    exact this
  have hrR : rowS C Q R + Q R C = sg C b - m := by
    have := hQ.row R (by omega)
    rw [show withD R a (sg C b - m) R = sg C b - m from if_neg (Nat.lt_irrefl _)] at this
    exact this
  have hcC : colS R Q C + Q R C = sg R a - m := by
    have := hQ.col C (by omega)
    rw [show withD C b (sg R a - m) C = sg R a - m from if_neg (Nat.lt_irrefl _)] at this
    exact this
  have s1 : units R C Q + colS R Q C = sg R a := by
    unfold units colS
    rw [← sg_add]
    exact sg_congr R hrow
  have s2 : units R C Q + rowS C Q R = sg C b := by
    rw [units_col]
    unfold rowS
    rw [← sg_add]
    exact sg_congr C hcol
  have h0 := hQ.nn R C (by omega) (by omega)
  refine ⟨⟨fun i j hi hj => hQ.nn i j (by omega) (by omega), fun i hi => ?_, fun j hj => ?_⟩, by omega, h0, ?_⟩
  · have := hrow i hi
    have := hQ.nn i C (by omega) (by omega)
    omega
  · have := hcol j hj
    have := hQ.nn R j (by omega) (by omega)
    omega
  · have e1 : cst (R + 1) (C + 1) (costD R C c d e) Q = sg R (fun i => sg C (fun j => c i j * Q i j) + d * Q i C) + (sg C (fun j => d * Q R j) + e * Q R C) := by
      show sg R (fun i => sg C (fun j => costD R C c d e i j * Q i j) + costD R C c d e i C * Q i C) + (sg C (fun j => costD R C c d e R j * Q R j) + costD R C c d e R C * Q R C) = _
      congr 1
      · refine sg_congr R fun i hi => ?_
        congr 1
        · refine sg_congr C fun j hj => ?_
          unfold costD
          rw [if_pos hi, if_pos hj]
        · unfold costD
          rw [if_pos hi, if_neg (Nat.lt_irrefl _)]
      · congr 1
        · refine sg_congr C fun j hj => ?_
          unfold costD
          rw [if_neg (Nat.lt_irrefl _), if_pos hj]
        · unfold costD
          rw [if_neg (Nat.lt_irrefl _), if_neg (Nat.lt_irrefl _)]
    rw [e1, sg_add, sg_mul, sg_mul]
    have e2 : sg R (fun i => Q i C) = colS R Q C := rfl
    have e3 : sg C (fun j => Q R j) = rowS C Q R := rfl
    have e4 : sg R (fun i => sg C fun j => c i j * Q i j) = cst R C c Q := rfl
    rw [e2, e3, e4, show colS R Q C = sg R a - units R C Q by omega, show rowS C Q R = sg C b - units R C Q by omega, show Q R C = units R C Q - m by omega,
      show sg R a + sg C b - 2 * units R C Q = (sg R a - units R C Q) + (sg C b - units R C Q) by omega, Int.mul_add]
    omega
/-- A part with dumps. -/
def extD (R C : Nat) (a b : Nat → Int) (m : Int) (q : Nat → Nat → Int) (i j : Nat) : Int :=
  if i < R then (if j < C then q i j else a i - rowS C q i) else (if j < C then b j - colS R q j else units R C q - m)
theorem dump_ext {q : Nat → Nat → Int} (hq : IsPart R C a b q) (hu : m ≤ units R C q) : IsPlan (R + 1) (C + 1) (withD R a (sg C b - m)) (withD C b (sg R a - m)) (extD R C a b m q) ∧ (∀ i j, i < R → j < C → extD R C a b m q i j = q i j) := by
  have hin : ∀ i j, i < R → j < C → extD R C a b m q i j = q i j := fun i j hi hj => by
    unfold extD
    rw [if_pos hi, if_pos hj]
  have hiC : ∀ i, i < R → extD R C a b m q i C = a i - rowS C q i := fun i hi => by
    unfold extD
    rw [if_pos hi, if_neg (Nat.lt_irrefl _)]
  have hRj : ∀ j, j < C → extD R C a b m q R j = b j - colS R q j := fun j hj => by
    unfold extD
    rw [if_neg (Nat.lt_irrefl _), if_pos hj]
  have hRC : extD R C a b m q R C = units R C q - m := by
    unfold extD
    rw [if_neg (Nat.lt_irrefl _), if_neg (Nat.lt_irrefl _)]
  refine ⟨⟨fun i j hi hj => ?_, fun i hi => ?_, fun j hj => ?_⟩, hin⟩
  · rcases Nat.lt_or_ge i R with h1 | h1
    · rcases Nat.lt_or_ge j C with h2 | h2
      · rw [hin i j h1 h2]; exact hq.nn i j h1 h2
      · obtain rfl : j = C := by omega
        rw [hiC i h1]; have := hq.row i h1; omega
    · obtain rfl : i = R := by omega
      rcases Nat.lt_or_ge j C with h2 | h2
      · rw [hRj j h2]; have := hq.col j h2; omega
      · obtain rfl : j = C := by omega
        rw [hRC]; omega
  · show sg C (fun j => extD R C a b m q i j) + extD R C a b m q i C = _
    rcases Nat.lt_or_ge i R with h1 | h1
    · rw [sg_congr C fun j hj => hin i j h1 hj, hiC i h1, show withD R a (sg C b - m) i = a i from if_pos h1]
      show rowS C q i + _ = _
      omega
    · obtain rfl : i = R := by omega
      rw [sg_congr C fun j hj => hRj j hj, hRC, show withD i a (sg C b - m) i = sg C b - m from if_neg (Nat.lt_irrefl _), sg_sub, ← units_col]
      omega
  · show sg R (fun i => extD R C a b m q i j) + extD R C a b m q R j = _
    rcases Nat.lt_or_ge j C with h1 | h1
    · rw [sg_congr R fun i hi => hin i j hi h1, hRj j h1, show withD C b (sg R a - m) j = b j from if_pos h1]
      show colS R q j + _ = _
      omega
    · obtain rfl : j = C := by omega
      rw [sg_congr R fun i hi => hiC i hi, hRC, show withD j b (sg R a - m) j = sg R a - m from if_neg (Nat.lt_irrefl _), sg_sub]
      show sg R a - units R j q + _ = _
      omega
theorem units_congr {p q : Nat → Nat → Int} (h : ∀ i j, i < R → j < C → p i j = q i j) : units R C p = units R C q := sg_congr R fun i hi => sg_congr C fun j hj => h i j hi hj
theorem cst_congr2 {p q : Nat → Nat → Int} (h : ∀ i j, i < R → j < C → p i j = q i j) : cst R C c p = cst R C c q := sg_congr R fun i hi => sg_congr C fun j hj => by rw [h i j hi hj]
theorem dump_cost {q : Nat → Nat → Int} (hq : IsPart R C a b q) (hu : m ≤ units R C q) : cst (R + 1) (C + 1) (costD R C c d e) (extD R C a b m q) = cst R C c q + d * (sg R a + sg C b - 2 * units R C q) + e * (units R C q - m) := by
  obtain ⟨h1, h2⟩ := dump_ext hq hu
  rw [(dump_in (c := c) (d := d) (e := e) h1).2.2.2, units_congr h2, cst_congr2 h2]
end

/-! ### The document's leasts -/
section
variable {a b : List Int} {c : List (List Int)}
/-- With dumps that cost the waste: the least at that waste. -/
theorem dump_loose (hm : MC a b c) (w : Int) {v : Int} (h1 : ∃ Q, IsPlan (a.length + 1) (b.length + 1) (withD a.length (ga a) (sumL b - 0)) (withD b.length (ga b) (sumL a - 0)) Q ∧ cst (a.length + 1) (b.length + 1) (costD a.length b.length (gt c) w 0) Q = v)
    (h2 : ∀ Q, IsPlan (a.length + 1) (b.length + 1) (withD a.length (ga a) (sumL b - 0)) (withD b.length (ga b) (sumL a - 0)) Q → v ≤ cst (a.length + 1) (b.length + 1) (costD a.length b.length (gt c) w 0) Q) : v = looseV a b c w := by
  obtain ⟨Q, hQ, he⟩ := h1
  obtain ⟨k1, k2, k3, k4⟩ := dump_in (c := gt c) (d := w) (e := 0) hQ
  have h3 := loose_le hm w k1
  have hf := (few_spec hm w).1
  obtain ⟨p1, p2, p3⟩ := part_at hm hf
  have hu : (0 : Int) ≤ units a.length b.length (gt (stepP a b c (fewK a b c w))) := by rw [p2]; omega
  have h4 := h2 _ (dump_ext p1 hu).1
  rw [dump_cost p1 hu] at h4
  have h5 := loose_at hm w (Nat.le_refl _) (((loose_obj hm w hf).2.1 rfl).2)
  rw [← p2] at h5
  rw [he] at k4
  have e1 : sumL a = sg a.length (ga a) := rfl
  have e2 : sumL b = sg b.length (ga b) := rfl
  rw [← e1, ← e2] at k4 h4
  omega
end
end Go.OT
