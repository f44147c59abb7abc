/- Loose plans: prices, rising wastes, thresholds, rows and columns exchanged, a unit less. No program; no condition. -/
import Derived.Test.YtogopoiohckpdabP8
namespace Go.OT
set_option linter.unusedSimpArgs false
set_option linter.unusedVariables false

section
variable {R C : Nat} {a b : Nat → Int} {c q : Nat → Nat → Int} {u v : Nat → Int} {w : Int}
/-! ### Exchanged -/
end

section
variable {a b : List Int} {c : List (List Int)}
/-! ### Wastes -/
theorem maxU_le (hm : MC a b c) {k : Nat} (hk : k ≤ maxU a b) : 0 ≤ sumL a + sumL b - 2 * (k : Int) := by
  have := hm.sum_nn
  unfold maxU at hk
  omega
theorem loose_zero (hm : MC a b c) (w : Int) : looseV a b c w ≤ w * (sumL a + sumL b) := by
  have h1 := (loose_obj hm w (Nat.zero_le _)).1
  unfold objV at h1
  have e : partV a b c 0 = 0 := rfl
  rw [e] at h1
  have : sumL a + sumL b - 2 * ((0 : Nat) : Int) = sumL a + sumL b := by omega
  rw [this] at h1
  omega
theorem loose_nn (hm : MC a b c) {w : Int} (hw : 0 ≤ w) : 0 ≤ looseV a b c w := by
  have f := (few_spec hm w).1
  have h1 := part_bnd hm _ f
  have h2 := Int.mul_nonneg hw (maxU_le hm f)
  have e : looseV a b c w = objV a b c w (fewK a b c w) := rfl
  unfold objV at e
  omega
/-- The smallest waste at which all that can be is moved. -/
def thrV (a b : List Int) (c : List (List Int)) : Int := (lastN a b c (maxU a b) + 1) / 2
theorem thr_bnd (hm : MC a b c) : 0 ≤ thrV a b c ∧ thrV a b c ≤ 50 := by
  unfold thrV
  cases hM : maxU a b with
  | zero => exact (by decide : (0 : Int) ≤ ((0 : Int) + 1) / 2 ∧ ((0 : Int) + 1) / 2 ≤ 50)
  | succ M =>
    have h := nu_bnd hm (k := M) (by omega)
    show 0 ≤ (nuV a b c M + 1) / 2 ∧ (nuV a b c M + 1) / 2 ≤ 50
    omega

/-! ### A unit less -/
def decr (l : List Int) (i : Nat) : List Int := l.set i (l.getD i 0 - 1)
theorem decr_len (l : List Int) (i : Nat) : (decr l i).length = l.length := List.length_set
theorem decr_at {l : List Int} {i : Nat} (h : i < l.length) (k : Nat) : ga (decr l i) k = ga l k - if k = i then 1 else 0 := by
  unfold decr ga
  rw [ga_set h]
  by_cases hk : k = i
  · subst hk; rw [if_pos rfl, if_pos rfl]
  · rw [if_neg hk, if_neg hk]; omega
theorem decr_sum {l : List Int} {i : Nat} (hi : i < l.length) : sumL (decr l i) = sumL l - 1 := by
  unfold sumL
  rw [decr_len, sg_congr l.length fun k _ => decr_at hi k, sg_sub, sg_one, if_pos hi]
theorem MC.decr (hm : MC a b c) {i j : Nat} (hi : i < a.length) (hj : j < b.length) (h1 : 0 < ga a i) (h2 : 0 < ga b j) : MC (decr a i) (decr b j) c := by
  have bnd : ∀ {l : List Int} {i : Nat}, i < l.length → Bnd 0 200 l → 0 < ga l i → Bnd 0 200 (Go.OT.decr l i) := fun {l i} hi hb h => Bnd.of fun k hk => by
    rw [decr_len] at hk
    have h3 := decr_at hi k
    have h4 : ga l k = l.getD k 0 := rfl
    have h5 := hb.at hk
    unfold ga at h3 h
    rw [h3]
    split
    · rename_i e; subst e; omega
    · omega
  refine ⟨by rw [decr_len]; exact hm.a5, by rw [decr_len]; exact hm.b5, bnd hi hm.ha h1, bnd hj hm.hb h2, by rw [decr_len, decr_len]; exact hm.hc⟩
/-- A unit that is moved there, and the least of the rest, never cost less than the least; just so much, if a cheapest plan moves one there. -/
theorem far_le (hm : MC a b c) {i j : Nat} (hi : i < a.length) (hj : j < b.length) (h1 : 0 < ga a i) (h2 : 0 < ga b j) (w : Int) : looseV a b c w ≤ gt c i j + looseV (decr a i) (decr b j) c w := by
  have hd := hm.decr hi hj h1 h2
  have f := (few_spec hd w).1
  obtain ⟨p1, p2, p3⟩ := part_at hd f
  rw [decr_len, decr_len] at p1 p2 p3
  have hq : IsPart a.length b.length (ga a) (ga b) (bump (gt (stepP (decr a i) (decr b j) c (fewK (decr a i) (decr b j) c w))) i j 1) := by
    refine ⟨fun i' j' hi' hj' => ?_, fun i' hi' => ?_, fun j' hj' => ?_⟩
    · have := p1.nn i' j' hi' hj'
      unfold bump
      split <;> omega
    · have := p1.row i' hi'
      rw [decr_at hi] at this
      rw [rowS_bump _ hj]
      omega
    · have := p1.col j' hj'
      rw [decr_at hj] at this
      rw [colS_bump _ hi]
      omega
  have h3 := loose_le hm w hq
  have hu : units a.length b.length (bump (gt (stepP (decr a i) (decr b j) c (fewK (decr a i) (decr b j) c w))) i j 1) = units a.length b.length (gt (stepP (decr a i) (decr b j) c (fewK (decr a i) (decr b j) c w))) + 1 := by
    unfold units
    rw [sg_congr a.length fun k _ => rowS_bump _ hj k, sg_add, sg_one, if_pos hi]
  rw [cst_bump _ _ hi hj, hu, p2, p3] at h3
  have e : looseV (decr a i) (decr b j) c w = objV (decr a i) (decr b j) c w (fewK (decr a i) (decr b j) c w) := rfl
  rw [e]
  unfold objV
  rw [decr_sum hi, decr_sum hj, show sumL a - 1 + (sumL b - 1) - 2 * (fewK (decr a i) (decr b j) c w : Int) = sumL a + sumL b - 2 * ((fewK (decr a i) (decr b j) c w : Int) + 1) by omega]
  omega
theorem far_eq (hm : MC a b c) {i j : Nat} (hi : i < a.length) (hj : j < b.length) (w : Int) {q : Nat → Nat → Int} (hq : IsPart a.length b.length (ga a) (ga b) q) (h0 : 0 < q i j) (he : cst a.length b.length (gt c) q + w * (sumL a + sumL b - 2 * units a.length b.length q) = looseV a b c w) :
    0 < ga a i ∧ 0 < ga b j ∧ gt c i j + looseV (decr a i) (decr b j) c w ≤ looseV a b c w := by
  have k1 : q i j ≤ ga a i := Int.le_trans (sg_at b.length (f := q i) (fun j hj => hq.nn i j hi hj) j hj) (hq.row i hi)
  have k2 : q i j ≤ ga b j := Int.le_trans (sg_at a.length (f := fun i => q i j) (fun i hi => hq.nn i j hi hj) i hi) (hq.col j hj)
  have h1 : 0 < ga a i := by omega
  have h2 : 0 < ga b j := by omega
  refine ⟨h1, h2, ?_⟩
  have hd := hm.decr hi hj h1 h2
  have hp : IsPart (decr a i).length (decr b j).length (ga (decr a i)) (ga (decr b j)) (bump q i j (-1)) := by
    rw [decr_len, decr_len]
    refine ⟨fun i' j' hi' hj' => ?_, fun i' hi' => ?_, fun j' hj' => ?_⟩
    · have := hq.nn i' j' hi' hj'
      unfold bump
      split
      · rename_i e; rw [e.1, e.2]; omega
      · omega
    · have := hq.row i' hi'
      rw [rowS_bump _ hj, decr_at hi]
      split <;> omega
    · have := hq.col j' hj'
      rw [colS_bump _ hi, decr_at hj]
      split <;> omega
  have h3 := loose_le hd w hp
  rw [decr_len, decr_len, cst_bump _ _ hi hj] at h3
  have hu : units a.length b.length (bump q i j (-1)) = units a.length b.length q + -1 := by
    unfold units
    rw [sg_congr a.length fun k _ => rowS_bump _ hj k, sg_add, sg_one, if_pos hi]
  rw [hu, decr_sum hi, decr_sum hj, show sumL a - 1 + (sumL b - 1) - 2 * (units a.length b.length q + -1) = sumL a + sumL b - 2 * units a.length b.length q by omega] at h3
  omega
end
end Go.OT
