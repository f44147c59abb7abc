/- Loose plans: prices, rising wastes, thresholds, rows and columns exchanged, a unit less. No program; no condition. -/
import Derived.Test.YthncebdmmfhhjaaP8
namespace Go.OT
set_option linter.unusedSimpArgs false
set_option linter.unusedVariables false

section
variable {R C : Nat} {a b : Nat → Int} {c q : Nat → Nat → Int} {u v : Nat → Int} {w : Int}
/-- Prices of at most the waste that hold are worth at most what a loose plan costs. -/
theorem loose_dual (hq : IsPart R C a b q) (h : Holds R C c u v) (hu : ∀ i, i < R → u i ≤ w) (hv : ∀ j, j < C → v j ≤ w) : worth R C a b u v ≤ cst R C c q + w * (sg R a + sg C b - 2 * units R C q) := by
  have h1 : cst R C (fun i j => u i + v j) q ≤ cst R C c q := sg_le R fun i hi => sg_le C fun j hj => Int.mul_le_mul_of_nonneg_right (h i j hi hj) (hq.nn i j hi hj)
  rw [cst_prices] at h1
  unfold worth at h1 ⊢
  have h2 : sg R (fun i => a i * u i) ≤ sg R (fun i => rowS C q i * u i) + w * (sg R a - units R C q) := by
    have e : w * (sg R a - units R C q) = sg R (fun i => w * (a i - rowS C q i)) := by
      rw [sg_mul, sg_sub]; rfl
    rw [e, ← sg_add]
    refine sg_le R fun i hi => ?_
    have k1 := hq.row i hi
    have k2 := Int.mul_le_mul_of_nonneg_left (hu i hi) (show 0 ≤ a i - rowS C q i by omega)
    rw [Int.sub_mul] at k2
    rw [Int.mul_comm w]
    omega
  have h3 : sg C (fun j => b j * v j) ≤ sg C (fun j => colS R q j * v j) + w * (sg C b - units R C q) := by
    have e : w * (sg C b - units R C q) = sg C (fun j => w * (b j - colS R q j)) := by
      rw [sg_mul, sg_sub, ← units_col]
    rw [e, ← sg_add]
    refine sg_le C fun j hj => ?_
    have k1 := hq.col j hj
    have k2 := Int.mul_le_mul_of_nonneg_left (hv j hj) (show 0 ≤ b j - colS R q j by omega)
    rw [Int.sub_mul] at k2
    rw [Int.mul_comm w]
    omega
  rw [show sg R a + sg C b - 2 * units R C q = (sg R a - units R C q) + (sg C b - units R C q) by omega, Int.mul_add]
  omega

/-- Prices of masses with dumps, made prices of the masses. -/
theorem dump_prices {U V : Nat → Int} (h : Holds (R + 1) (C + 1) (costD R C c w 0) U V) (hm : U R + V C ≤ 0) :
    Holds R C c (fun i => U i + V C) (fun j => V j + U R) ∧ (∀ i, i < R → U i + V C ≤ w) ∧ (∀ j, j < C → V j + U R ≤ w) ∧
    worth R C a b (fun i => U i + V C) (fun j => V j + U R) = worth (R + 1) (C + 1) (withD R a (sg C b)) (withD C b (sg R a)) U V := by
  have hij : ∀ i j, i < R → j < C → U i + V j ≤ c i j := fun i j hi hj => by
    have := h i j (by omega) (by omega)
    unfold costD at this
    rwa [if_pos hi, if_pos hj] at this
  refine ⟨fun i j hi hj => ?_, fun i hi => ?_, fun j hj => ?_, ?_⟩
  · have := hij i j hi hj
    dsimp only
    omega
  · have := h i C (by omega) (by omega)
    unfold costD at this
    rwa [if_pos hi, if_neg (Nat.lt_irrefl _)] at this
  · have := h R j (by omega) (by omega)
    unfold costD at this
    rw [if_neg (Nat.lt_irrefl _), if_pos hj] at this
    omega
  · unfold worth
    have e1 : sg (R + 1) (fun i => withD R a (sg C b) i * U i) = sg R (fun i => a i * U i) + sg C b * U R := by
      show sg R (fun i => withD R a (sg C b) i * U i) + withD R a (sg C b) R * U R = _
      congr 1
      · exact sg_congr R fun i hi => by rw [show withD R a (sg C b) i = a i from if_pos hi]
      · rw [show withD R a (sg C b) R = sg C b from if_neg (Nat.lt_irrefl _)]
    have e2 : sg (C + 1) (fun j => withD C b (sg R a) j * V j) = sg C (fun j => b j * V j) + sg R a * V C := by
      show sg C (fun j => withD C b (sg R a) j * V j) + withD C b (sg R a) C * V C = _
      congr 1
      · exact sg_congr C fun j hj => by rw [show withD C b (sg R a) j = b j from if_pos hj]
      · rw [show withD C b (sg R a) C = sg R a from if_neg (Nat.lt_irrefl _)]
    have e3 : sg R (fun i => a i * (U i + V C)) = sg R (fun i => a i * U i) + sg R a * V C := by
      rw [Int.mul_comm (sg R a), ← sg_mul, ← sg_add]
      exact sg_congr R fun i _ => by rw [Int.mul_add, Int.mul_comm (V C)]
    have e4 : sg C (fun j => b j * (V j + U R)) = sg C (fun j => b j * V j) + sg C b * U R := by
      rw [Int.mul_comm (sg C b), ← sg_mul, ← sg_add]
      exact sg_congr C fun j _ => by rw [Int.mul_add, Int.mul_comm (U R)]
    rw [e1, e2, e3, e4]
    omega

/-! ### Exchanged -/
theorem part_flip (hq : IsPart R C a b q) : IsPart C R b a (fun i j => q j i) ∧ units C R (fun i j => q j i) = units R C q ∧ cst C R (fun i j => c j i) (fun i j => q j i) = cst R C c q :=
  ⟨⟨fun i j hi hj => hq.nn j i hj hi, fun i hi => hq.col i hi, fun j hj => hq.row j hj⟩, (units_col R C q).symm, sg_swap R (fun i j => c j i * q j i) C⟩
end

section
variable {a b : List Int} {c : List (List Int)}
theorem maxU_flip (a b : List Int) : maxU b a = maxU a b := by
  unfold maxU
  rw [Int.min_comm]
/-- With rows and columns exchanged the costs of parts are the same. -/
theorem flip_part {d : List (List Int)} (hm : MC a b c) (hd : MC b a d) (he : ∀ i j, i < a.length → j < b.length → gt d j i = gt c i j) {k : Nat} (hk : k ≤ maxU a b) : partV b a d k = partV a b c k := by
  have ec : ∀ q : Nat → Nat → Int, cst b.length a.length (gt d) q = cst b.length a.length (fun i j => gt c j i) q := fun q => sg_congr _ fun i hi => sg_congr _ fun j hj => by rw [he j i hj hi]
  refine part_unique hm hk ?_ fun q hq hu => ?_
  · obtain ⟨p1, p2, p3⟩ := part_at hd (k := k) (by rw [maxU_flip]; exact hk)
    obtain ⟨f1, f2, f3⟩ := part_flip (c := gt d) p1
    refine ⟨_, f1, by rw [f2, p2], ?_⟩
    rw [← p3, ← f3]
    exact sg_congr _ fun i hi => sg_congr _ fun j hj => by
      show gt c i j * _ = gt d j i * _
      rw [he i j hi hj]
  · obtain ⟨f1, f2, f3⟩ := part_flip (c := gt c) hq
    have := (part_le hd f1 (by rw [f2, hu])).2
    rw [ec] at this
    rw [f3] at this
    exact this
theorem flip_loose {d : List (List Int)} (hm : MC a b c) (hd : MC b a d) (he : ∀ i j, i < a.length → j < b.length → gt d j i = gt c i j) (w : Int) : looseV b a d w = looseV a b c w := by
  have h1 : ∀ k, k ≤ maxU a b → objV b a d w k = objV a b c w k := fun k hk => by
    unfold objV
    rw [flip_part hm hd he hk, Int.add_comm (sumL b)]
  have f1 := (few_spec hm w).1
  have f2 := (few_spec hd w).1
  have f2' : fewK b a d w ≤ maxU a b := by rw [← maxU_flip]; exact f2
  have k1 := (loose_obj hm w f2').1
  have k2 := (loose_obj hd w (k := fewK a b c w) (by rw [maxU_flip]; exact f1)).1
  rw [← h1 _ f2'] at k1
  rw [h1 _ f1] at k2
  have e1 : looseV a b c w = objV a b c w (fewK a b c w) := rfl
  have e2 : looseV b a d w = objV b a d w (fewK b a d w) := rfl
  omega

/-! ### Wastes -/
theorem maxU_le (hm : MC a b c) {k : Nat} (hk : k ≤ maxU a b) : 0 ≤ sumL a + sumL b - 2 * (k : Int) := by
  have := hm.sum_nn
  unfold maxU at hk
  omega
theorem loose_rise (hm : MC a b c) {w w' : Int} (h : w ≤ w') : looseV a b c w ≤ looseV a b c w' := by
  have f := (few_spec hm w').1
  have h1 := (loose_obj hm w f).1
  have h2 := Int.mul_le_mul_of_nonneg_right h (maxU_le hm f)
  have e : looseV a b c w' = objV a b c w' (fewK a b c w') := rfl
  unfold objV at h1 e
  omega
theorem loose_zero (hm : MC a b c) (w : Int) : looseV a b c w ≤ w * (sumL a + sumL b) := by
  have h1 := (loose_obj hm w (Nat.zero_le _)).1
  unfold objV at h1
  have e : partV a b c 0 = 0 := rfl
  rw [e] at h1
  have : sumL a + sumL b - 2 * ((0 : Nat) : Int) = sumL a + sumL b := by omega
  rw [this] at h1
  omega
theorem loose_nn (hm : MC a b c) {w : Int} (hw : 0 ≤ w) : 0 ≤ looseV a b c w := by
  have f := (few_spec hm w).1
  have h1 := part_bnd hm _ f
  have h2 := Int.mul_nonneg hw (maxU_le hm f)
  have e : looseV a b c w = objV a b c w (fewK a b c w) := rfl
  unfold objV at e
  omega
/-- The smallest waste at which all that can be is moved. -/
def thrV (a b : List Int) (c : List (List Int)) : Int := (lastN a b c (maxU a b) + 1) / 2
theorem most_all (hm : MC a b c) (w : Int) (hw : 0 ≤ w) : mostK a b c w = maxU a b ↔ thrV a b c ≤ w := by
  obtain ⟨h1, h2, h3⟩ := most_spec hm w
  unfold thrV
  cases hM : maxU a b with
  | zero =>
    rw [hM] at h1
    constructor
    · intro _
      show ((0 : Int) + 1) / 2 ≤ w
      omega
    · intro _; omega
  | succ M =>
    have e : lastN a b c (M + 1) = nuV a b c M := rfl
    rw [e]
    constructor
    · intro h
      have := h2 M (by omega)
      omega
    · intro h
      apply Classical.byContradiction
      intro hn
      have := h3 M (by omega) (by omega)
      omega
theorem thr_bnd (hm : MC a b c) : 0 ≤ thrV a b c ∧ thrV a b c ≤ 50 := by
  unfold thrV
  cases hM : maxU a b with
  | zero => exact (by decide : (0 : Int) ≤ ((0 : Int) + 1) / 2 ∧ ((0 : Int) + 1) / 2 ≤ 50)
  | succ M =>
    have h := nu_bnd hm (k := M) (by omega)
    show 0 ≤ (nuV a b c M + 1) / 2 ∧ (nuV a b c M + 1) / 2 ≤ 50
    omega

/-! ### A unit less -/
def decr (l : List Int) (i : Nat) : List Int := l.set i (l.getD i 0 - 1)
theorem decr_len (l : List Int) (i : Nat) : (decr l i).length = l.length := List.length_set
theorem decr_at {l : List Int} {i : Nat} (h : i < l.length) (k : Nat) : ga (decr l i) k = ga l k - if k = i then 1 else 0 := by
  unfold decr ga
  rw [ga_set h]
  by_cases hk : k = i
  · subst hk; rw [if_pos rfl, if_pos rfl]
  · rw [if_neg hk, if_neg hk]; omega
theorem decr_sum {l : List Int} {i : Nat} (hi : i < l.length) : sumL (decr l i) = sumL l - 1 := by
  unfold sumL
  rw [decr_len, sg_congr l.length fun k _ => decr_at hi k, sg_sub, sg_one, if_pos hi]
theorem MC.decr (hm : MC a b c) {i j : Nat} (hi : i < a.length) (hj : j < b.length) (h1 : 0 < ga a i) (h2 : 0 < ga b j) : MC (decr a i) (decr b j) c := by
  have bnd : ∀ {l : List Int} {i : Nat}, i < l.length → Bnd 0 200 l → 0 < ga l i → Bnd 0 200 (Go.OT.decr l i) := fun {l i} hi hb h => Bnd.of fun k hk => by
    rw [decr_len] at hk
    have h3 := decr_at hi k
    have h4 : ga l k = l.getD k 0 := rfl
    have h5 := hb.at hk
    unfold ga at h3 h
    rw [h3]
    split
    · rename_i e; subst e; omega
    · omega
  refine ⟨by rw [decr_len]; exact hm.a5, by rw [decr_len]; exact hm.b5, bnd hi hm.ha h1, bnd hj hm.hb h2, by rw [decr_len, decr_len]; exact hm.hc⟩
/-- A unit that is moved there, and the least of the rest, never cost less than the least; just so much, if a cheapest plan moves one there. -/
theorem far_le (hm : MC a b c) {i j : Nat} (hi : i < a.length) (hj : j < b.length) (h1 : 0 < ga a i) (h2 : 0 < ga b j) (w : Int) : looseV a b c w ≤ gt c i j + looseV (decr a i) (decr b j) c w := by
  have hd := hm.decr hi hj h1 h2
  have f := (few_spec hd w).1
  obtain ⟨p1, p2, p3⟩ := part_at hd f
  rw [decr_len, decr_len] at p1 p2 p3
  have hq : IsPart a.length b.length (ga a) (ga b) (bump (gt (stepP (decr a i) (decr b j) c (fewK (decr a i) (decr b j) c w))) i j 1) := by
    refine ⟨fun i' j' hi' hj' => ?_, fun i' hi' => ?_, fun j' hj' => ?_⟩
    · have := p1.nn i' j' hi' hj'
      unfold bump
      split <;> omega
    · have := p1.row i' hi'
      rw [decr_at hi] at this
      rw [rowS_bump _ hj]
      omega
    · have := p1.col j' hj'
      rw [decr_at hj] at this
      rw [colS_bump _ hi]
      omega
  have h3 := loose_le hm w hq
  have hu : units a.length b.length (bump (gt (stepP (decr a i) (decr b j) c (fewK (decr a i) (decr b j) c w))) i j 1) = units a.length b.length (gt (stepP (decr a i) (decr b j) c (fewK (decr a i) (decr b j) c w))) + 1 := by
    unfold units
    rw [sg_congr a.length fun k _ => rowS_bump _ hj k, sg_add, sg_one, if_pos hi]
  rw [cst_bump _ _ hi hj, hu, p2, p3] at h3
  have e : looseV (decr a i) (decr b j) c w = objV (decr a i) (decr b j) c w (fewK (decr a i) (decr b j) c w) := rfl
  rw [e]
  unfold objV
  rw [decr_sum hi, decr_sum hj, show sumL a - 1 + (sumL b - 1) - 2 * (fewK (decr a i) (decr b j) c w : Int) = sumL a + sumL b - 2 * ((fewK (decr a i) (decr b j) c w : Int) + 1) by omega]
  omega
theorem far_eq (hm : MC a b c) {i j : Nat} (hi : i < a.length) (hj : j < b.length) (w : Int) {q : Nat → Nat → Int} (hq : IsPart a.length b.length (ga a) (ga b) q) (h0 : 0 < q i j) (he : cst a.length b.length (gt c) q + w * (sumL a + sumL b - 2 * units a.length b.length q) = looseV a b c w) :
    0 < ga a i ∧ 0 < ga b j ∧ gt c i j + looseV (decr a i) (decr b j) c w ≤ looseV a b c w := by
  have k1 : q i j ≤ ga a i := Int.le_trans (sg_at b.length (f := q i) (fun j hj => hq.nn i j hi hj) j hj) (hq.row i hi)
  have k2 : q i j ≤ ga b j := Int.le_trans (sg_at a.length (f := fun i => q i j) (fun i hi => hq.nn i j hi hj) i hi) (hq.col j hj)
  have h1 : 0 < ga a i := by omega
  have h2 : 0 < ga b j := by omega
  refine ⟨h1, h2, ?_⟩
  have hd := hm.decr hi hj h1 h2
  have hp : IsPart (decr a i).length (decr b j).length (ga (decr a i)) (ga (decr b j)) (bump q i j (-1)) := by
    rw [decr_len, decr_len]
    refine ⟨fun i' j' hi' hj' => ?_, fun i' hi' => ?_, fun j' hj' => ?_⟩
    · have := hq.nn i' j' hi' hj'
      unfold bump
      split
      · rename_i e; rw [e.1, e.2]; omega
      · omega
    · have := hq.row i' hi'
      rw [rowS_bump _ hj, decr_at hi]
      split <;> omega
    · have := hq.col j' hj'
      rw [colS_bump _ hi, decr_at hj]
      split <;> omega
  have h3 := loose_le hd w hp
  rw [decr_len, decr_len, cst_bump _ _ hi hj] at h3
  have hu : units a.length b.length (bump q i j (-1)) = units a.length b.length q + -1 := by
    unfold units
    rw [sg_congr a.length fun k _ => rowS_bump _ hj k, sg_add, sg_one, if_pos hi]
  rw [hu, decr_sum hi, decr_sum hj, show sumL a - 1 + (sumL b - 1) - 2 * (units a.length b.length q + -1) = sumL a + sumL b - 2 * units a.length b.length q by omega] at h3
  omega
end
end Go.OT
