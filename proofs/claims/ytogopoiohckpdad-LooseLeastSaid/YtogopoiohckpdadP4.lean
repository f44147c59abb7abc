/- A plan is improved along rounds until prices prove it. No program; no condition. -/
import Derived.Test.YtogopoiohckpdadP3
namespace Go.LC
open Go.OT
set_option linter.unusedSimpArgs false
set_option linter.unusedVariables false

/-- The marks of a list. -/
def byF (l : List Int) (v : Nat) : Nat := (l.getD v 0).toNat

/-- The smallest number of the links of which there will be less, among the first m places of the round; -1 if there is none. -/
def leastK (R : Nat) (p : List (List Int)) (b : Nat → Nat) (x : Nat) : Nat → Int
  | 0 => -1
  | m + 1 => if it b m x < R then
      (if leastK R p b x m < 0 ∨ (p.getD (it b m x) []).getD (b (it b m x) - R) 0 < leastK R p b x m then (p.getD (it b m x) []).getD (b (it b m x) - R) 0 else leastK R p b x m)
    else leastK R p b x m
def turnStep (R : Nat) (b : Nat → Nat) (l : Int) (at' : Nat) (q : List (List Int)) : List (List Int) := if at' < R then addAt q at' (b at' - R) (-l) else addAt q (b at') (at' - R) l
def turnK (R : Nat) (p : List (List Int)) (b : Nat → Nat) (x : Nat) (l : Int) : Nat → List (List Int)
  | 0 => p
  | m + 1 => turnStep R b l (it b m x) (turnK R p b x l m)

def lwN (c p : List (List Int)) (N : Nat) : LL := lwK c p N N
def rx (c p : List (List Int)) (N : Nat) : Nat := it (byF (lwN c p N).by') N (lwN c p N).last.toNat
def rp (c p : List (List Int)) (N : Nat) : Nat := period (byF (lwN c p N).by') N (rx c p N)
def rl (c p : List (List Int)) (N : Nat) : Int := leastK c.length p (byF (lwN c p N).by') (rx c p N) (rp c p N)
def impV (c p : List (List Int)) (N : Nat) : List (List Int) := turnK c.length p (byF (lwN c p N).by') (rx c p N) (rl c p N) (rp c p N)

section
variable {R C : Nat} {c p : Nat → Nat → Int} {b : Nat → Nat} {x n : Nat}

/-- A step of a round: from a column back to a row, or from a row back to a column. -/
theorem step_cases (h : Round (cw R c) (eTo R C p R) b x n) (m : Nat) :
    (∃ i j, i < R ∧ j < C ∧ it b m x = R + j ∧ it b (m + 1) x = i) ∨ (∃ i j, i < R ∧ j < C ∧ 0 < p i j ∧ it b m x = i ∧ it b (m + 1) x = R + j) := by
  obtain ⟨i, j, hi, hj, he | ⟨h0, he⟩⟩ := mem_e.1 (h.edge m)
  · simp only [Prod.mk.injEq] at he
    exact .inl ⟨i, j, hi, hj, he.2, he.1⟩
  · simp only [Prod.mk.injEq] at he
    exact .inr ⟨i, j, hi, hj, h0, he.2, he.1⟩

/-- Some place of a round is a row. -/
theorem has_row (h : Round (cw R c) (eTo R C p R) b x n) : ∃ m, m < n ∧ it b m x < R := by
  rcases step_cases h 0 with ⟨i, j, hi, hj, h1, h2⟩ | ⟨i, j, hi, hj, h0, h1, h2⟩
  · have hn : 1 < n := by
      have := h.pos
      rcases Nat.lt_or_ge 1 n with h3 | h3
      · exact h3
      · have : n = 1 := by omega
        have h4 := h.back
        rw [this] at h4
        have h5 : it b 0 x = x := rfl
        have h6 : it b 1 x = i := h2
        omega
    exact ⟨1, hn, by rw [h2]; exact hi⟩
  · exact ⟨0, h.pos, by rw [h1]; exact hi⟩
end

section
variable {R C : Nat} {c p : List (List Int)} {b : Nat → Nat} {x n : Nat}

theorem leastK_spec (h : Round (cw R (gt c)) (eTo R C (gt p) R) b x n) : ∀ m, (leastK R p b x m = -1 ∧ ∀ k, k < m → ¬ it b k x < R) ∨
    (1 ≤ leastK R p b x m ∧ (∀ k, k < m → it b k x < R → leastK R p b x m ≤ gt p (it b k x) (b (it b k x) - R)) ∧ ∃ k, k < m ∧ it b k x < R ∧ leastK R p b x m = gt p (it b k x) (b (it b k x) - R))
  | 0 => .inl ⟨rfl, fun k hk => by omega⟩
  | m + 1 => by
    have e : leastK R p b x (m + 1) = if it b m x < R then (if leastK R p b x m < 0 ∨ gt p (it b m x) (b (it b m x) - R) < leastK R p b x m then gt p (it b m x) (b (it b m x) - R) else leastK R p b x m) else leastK R p b x m := rfl
    rw [e]
    rcases step_cases h m with ⟨i, j, hi, hj, h1, h2⟩ | ⟨i, j, hi, hj, h0, h1, h2⟩
    · rw [if_neg (by omega)]
      rcases leastK_spec h m with ⟨k1, k2⟩ | ⟨k1, k2, k3⟩
      · refine .inl ⟨k1, fun k hk => ?_⟩
        rcases Nat.lt_or_ge k m with h3 | h3
        · exact k2 k h3
        · obtain rfl : k = m := by omega
          omega
      · refine .inr ⟨k1, fun k hk hr => ?_, ?_⟩
        · rcases Nat.lt_or_ge k m with h3 | h3
          · exact k2 k h3 hr
          · obtain rfl : k = m := by omega
            omega
        · obtain ⟨k, g1, g2, g3⟩ := k3
          exact ⟨k, by omega, g2, g3⟩
    · have h3 : b (it b m x) - R = j := by
        have : b (it b m x) = R + j := h2
        omega
      rw [if_pos (by omega), h3, h1]
      have hmm : ∀ k, k < m + 1 → k = m ∨ k < m := fun k hk => by omega
      rcases leastK_spec h m with ⟨k1, k2⟩ | ⟨k1, k2, k3⟩
      · rw [k1, if_pos (.inl (by omega))]
        refine .inr ⟨by omega, fun k hk hr => ?_, m, by omega, by omega, by rw [h3, h1]⟩
        rcases hmm k hk with rfl | h4
        · rw [h3, h1]; exact Int.le_refl _
        · exact absurd hr (k2 k h4)
      · by_cases hlt : gt p i j < leastK R p b x m
        · rw [if_pos (.inr hlt)]
          refine .inr ⟨by omega, fun k hk hr => ?_, m, by omega, by omega, by rw [h3, h1]⟩
          rcases hmm k hk with rfl | h4
          · rw [h3, h1]; exact Int.le_refl _
          · have := k2 k h4 hr; omega
        · rw [if_neg (by omega)]
          refine .inr ⟨k1, fun k hk hr => ?_, ?_⟩
          · rcases hmm k hk with rfl | h4
            · rw [h3, h1]; omega
            · exact k2 k h4 hr
          · obtain ⟨k, g1, g2, g3⟩ := k3
            exact ⟨k, by omega, g2, g3⟩

def ind (u v : Nat) : Int := if u = v then 1 else 0

/-- What a table is behind the first m places of a round. -/
structure Turned (R C : Nat) (c p : List (List Int)) (b : Nat → Nat) (x : Nat) (l : Int) (m : Nat) (q : List (List Int)) : Prop where
  sz : Sz R C q
  row : ∀ i, i < R → rowS C (gt q) i = rowS C (gt p) i + l * (ind (it b m x) i - ind x i)
  col : ∀ j, j < C → colS R (gt q) j = colS R (gt p) j + l * (ind x (R + j) - ind (it b m x) (R + j))
  cost : cst R C (gt c) (gt q) = cst R C (gt c) (gt p) + l * sg m (fun k => cw R (gt c) (it b (k + 1) x) (it b k x))
  low : ∀ i j, i < R → j < C → gt p i j - l ≤ gt q i j
  low2 : ∀ i j, i < R → j < C → (∀ k, k < m → it b k x = i → it b (k + 1) x = R + j → False) → gt p i j ≤ gt q i j
  near : ∀ i j, i < R → j < C → gt p i j - l * m ≤ gt q i j ∧ gt q i j ≤ gt p i j + l * m

theorem turned (h : Round (cw R (gt c)) (eTo R C (gt p) R) b x n) (hsz : Sz R C p) {l : Int} (hl : 0 ≤ l) : ∀ m, m ≤ n → Turned R C c p b x l m (turnK R p b x l m)
  | 0, _ => by
    refine ⟨hsz, fun i _ => ?_, fun j _ => ?_, ?_, fun i j _ _ => ?_, fun i j _ _ _ => Int.le_refl _, fun i j _ _ => ?_⟩
    · show rowS C (gt p) i = rowS C (gt p) i + l * (ind x i - ind x i)
      rw [Int.sub_self, Int.mul_zero]; omega
    · show colS R (gt p) j = colS R (gt p) j + l * (ind x (R + j) - ind x (R + j))
      rw [Int.sub_self, Int.mul_zero]; omega
    · show cst R C (gt c) (gt p) = cst R C (gt c) (gt p) + l * 0
      rw [Int.mul_zero]; omega
    · show gt p i j - l ≤ gt p i j; omega
    · show gt p i j - l * ((0 : Nat) : Int) ≤ gt p i j ∧ gt p i j ≤ gt p i j + l * ((0 : Nat) : Int)
      rw [Int.natCast_zero, Int.mul_zero]; omega
  | m + 1, hm => by
    obtain ⟨t1, t2, t3, t4, t5, t6, t7⟩ := turned h hsz hl m (by omega)
    have e : turnK R p b x l (m + 1) = turnStep R b l (it b m x) (turnK R p b x l m) := rfl
    have hlm : l * ((m + 1 : Nat) : Int) = l * m + l := by rw [Int.natCast_add, Int.mul_add]; omega
    rw [e]
    generalize turnK R p b x l m = q at t1 t2 t3 t4 t5 t6 t7 ⊢
    unfold turnStep
    rcases step_cases h m with ⟨i, j, hi, hj, h1, h2⟩ | ⟨i, j, hi, hj, h0, h1, h2⟩
    · have hb : b (it b m x) = i := h2
      rw [if_neg (by omega), hb, show it b m x - R = j by omega]
      have hg := gt_addAt (d := l) t1 hi hj
      have hw : cw R (gt c) (it b (m + 1) x) (it b m x) = gt c i j := by
        unfold cw
        rw [h2, if_pos hi, h1, Nat.add_sub_cancel_left]
      refine ⟨t1.add hi, fun i' hi' => ?_, fun j' hj' => ?_, ?_, fun i' j' hi' hj' => ?_, fun i' j' hi' hj' hno => ?_, fun i' j' hi' hj' => ?_⟩
      · rw [hg, rowS_bump _ hj, t2 i' hi', h1, h2]
        have z1 : ind (R + j) i' = 0 := if_neg (by omega)
        by_cases h3 : i' = i
        · have z2 : ind i i' = 1 := if_pos h3.symm
          rw [if_pos h3, z1, z2, Int.mul_sub, Int.mul_sub]; omega
        · have z2 : ind i i' = 0 := if_neg (fun h => h3 h.symm)
          rw [if_neg h3, z1, z2]; omega
      · rw [hg, colS_bump _ hi, t3 j' hj', h1, h2]
        have z1 : ind i (R + j') = 0 := if_neg (by omega)
        by_cases h3 : j' = j
        · have z2 : ind (R + j) (R + j') = 1 := if_pos (by omega)
          rw [if_pos h3, z1, z2, Int.mul_sub, Int.mul_sub]; omega
        · have z2 : ind (R + j) (R + j') = 0 := if_neg (by omega)
          rw [if_neg h3, z1, z2]; omega
      · rw [hg, cst_bump _ _ hi hj, t4]
        simp only [sg]
        rw [hw, Int.mul_add, Int.mul_comm l (gt c i j)]; omega
      · rw [hg]
        have := t5 i' j' hi' hj'
        unfold bump
        split <;> omega
      · rw [hg]
        have := t6 i' j' hi' hj' fun k hk => hno k (by omega)
        unfold bump
        split <;> omega
      · rw [hg, hlm]
        have := t7 i' j' hi' hj'
        unfold bump
        split <;> omega
    · have hb : b (it b m x) = R + j := h2
      rw [if_pos (by omega), hb, show R + j - R = j by omega, h1]
      have hg := gt_addAt (d := -l) t1 hi hj
      have hw : cw R (gt c) (it b (m + 1) x) (it b m x) = - gt c i j := by
        unfold cw
        rw [h2, if_neg (by omega), h1, Nat.add_sub_cancel_left]
      refine ⟨t1.add hi, fun i' hi' => ?_, fun j' hj' => ?_, ?_, fun i' j' hi' hj' => ?_, fun i' j' hi' hj' hno => ?_, fun i' j' hi' hj' => ?_⟩
      · rw [hg, rowS_bump _ hj, t2 i' hi', h1, h2]
        have z1 : ind (R + j) i' = 0 := if_neg (by omega)
        by_cases h3 : i' = i
        · have z2 : ind i i' = 1 := if_pos h3.symm
          rw [if_pos h3, z1, z2, Int.mul_sub, Int.mul_sub]; omega
        · have z2 : ind i i' = 0 := if_neg (fun h => h3 h.symm)
          rw [if_neg h3, z1, z2]; omega
      · rw [hg, colS_bump _ hi, t3 j' hj', h1, h2]
        have z1 : ind i (R + j') = 0 := if_neg (by omega)
        by_cases h3 : j' = j
        · have z2 : ind (R + j) (R + j') = 1 := if_pos (by omega)
          rw [if_pos h3, z1, z2, Int.mul_sub, Int.mul_sub]; omega
        · have z2 : ind (R + j) (R + j') = 0 := if_neg (by omega)
          rw [if_neg h3, z1, z2]; omega
      · rw [hg, cst_bump _ _ hi hj, t4]
        simp only [sg]
        rw [hw, Int.mul_add, Int.mul_neg, Int.mul_neg, Int.mul_comm l (gt c i j)]; omega
      · rw [hg]
        unfold bump
        by_cases h3 : i' = i ∧ j' = j
        · obtain ⟨rfl, rfl⟩ := h3
          rw [if_pos ⟨rfl, rfl⟩]
          have := t6 i' j' hi' hj' fun k hk e1 _ => h.inj hk (by omega) (by rw [e1, h1])
          omega
        · rw [if_neg h3]
          have := t5 i' j' hi' hj'
          omega
      · rw [hg]
        have h4 := t6 i' j' hi' hj' fun k hk => hno k (by omega)
        unfold bump
        rw [if_neg (fun h3 => hno m (by omega) (by rw [h1]; exact h3.1.symm) (by rw [h2, h3.2]))]
        omega
      · rw [hg, hlm]
        have := t7 i' j' hi' hj'
        unfold bump
        split <;> omega
end

/-- A round makes a cheaper plan. -/
theorem Pl.turn {a b : List Int} {c p : List (List Int)} (hp : Pl a b p) (hb : Bnd 0 200 b) {by' : Nat → Nat} {x n : Nat} (h : Round (cw a.length (gt c)) (eTo a.length b.length (gt p) a.length) by' x n) :
    1 ≤ leastK a.length p by' x n ∧ leastK a.length p by' x n ≤ 200 ∧ Pl a b (turnK a.length p by' x (leastK a.length p by' x n) n) ∧ cst a.length b.length (gt c) (gt (turnK a.length p by' x (leastK a.length p by' x n) n)) < cst a.length b.length (gt c) (gt p) := by
  obtain ⟨m0, hm0, hr0⟩ := has_row h
  rcases leastK_spec h n with ⟨_, k2⟩ | ⟨k1, k2, k3⟩
  · exact absurd hr0 (k2 m0 hm0)
  · have h200 : leastK a.length p by' x n ≤ 200 := by
      obtain ⟨k, g1, g2, g3⟩ := k3
      rcases step_cases h k with ⟨i, j, hi, hj, h1, h2⟩ | ⟨i, j, hi, hj, h0, h1, h2⟩
      · omega
      · have e1 : by' (it by' k x) - a.length = j := by
          have : by' (it by' k x) = a.length + j := h2
          omega
        rw [g3, e1, h1]
        exact (hp.tab.at' i j hi hj).2
    generalize hl : leastK a.length p by' x n = l at k1 k2 k3 h200 ⊢
    obtain ⟨t1, t2, t3, t4, t5, t6, t7⟩ := turned h hp.tab.sz (l := l) (by omega) n (Nat.le_refl _)
    have hrow : ∀ i, i < a.length → rowS b.length (gt (turnK a.length p by' x l n)) i = ga a i := fun i hi => by
      rw [t2 i hi, h.back, Int.sub_self, Int.mul_zero, hp.plan.row i hi]; omega
    have hcol : ∀ j, j < b.length → colS a.length (gt (turnK a.length p by' x l n)) j = ga b j := fun j hj => by
      rw [t3 j hj, h.back, Int.sub_self, Int.mul_zero, hp.plan.col j hj]; omega
    have hnn : ∀ i j, i < a.length → j < b.length → 0 ≤ gt (turnK a.length p by' x l n) i j := fun i j hi hj => by
      by_cases hu : ∃ k, k < n ∧ it by' k x = i ∧ it by' (k + 1) x = a.length + j
      · obtain ⟨k, e1, e2, e3⟩ := hu
        have e4 := k2 k e1 (by omega)
        have e5 : by' (it by' k x) - a.length = j := by
          have : by' (it by' k x) = a.length + j := e3
          omega
        rw [e5, e2] at e4
        have := t5 i j hi hj
        omega
      · have := t6 i j hi hj fun k e1 e2 e3 => hu ⟨k, e1, e2, e3⟩
        have := hp.plan.nn i j hi hj
        omega
    refine ⟨k1, h200, ⟨⟨t1.rows, t1.cols, fun i j hi hj => ⟨hnn i j hi hj, ?_⟩⟩, hnn, hrow, hcol⟩, ?_⟩
    · have h5 := sg_at a.length (f := fun i => gt (turnK a.length p by' x l n) i j) (fun i hi => hnn i j hi hj) i hi
      have h6 : sg a.length (fun i => gt (turnK a.length p by' x l n) i j) = ga b j := hcol j hj
      have h7 := (hb.at hj).2
      have h8 : gt (turnK a.length p by' x l n) i j ≤ ga b j := by rw [← h6]; exact h5
      unfold ga at h8
      unfold gt at h8
      omega
    · rw [t4]
      have := h.neg
      have : l * sg n (fun k => cw a.length (gt c) (it by' (k + 1) x) (it by' k x)) ≤ 1 * sg n (fun k => cw a.length (gt c) (it by' (k + 1) x) (it by' k x)) := Int.mul_le_mul_of_nonpos_right k1 (by omega)
      omega
end Go.LC
