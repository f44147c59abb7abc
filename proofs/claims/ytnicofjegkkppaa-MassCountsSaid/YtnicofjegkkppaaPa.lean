/- The program's count of the plans is the document's; it is the same in either direction, and above 0. Conditions: in each theorem. -/
import Derived.Test.YtnicofjegkkppaaFi
namespace Go.Proofs.Ytnicofjegkkppaa
open Go.RowKit Go.VS

theorem restF_rowsV {a : List Int} (ha : inMass a) : ∀ (f i j : Nat) (left : Int) (b : List Int), i < a.length → j ≤ b.length → inMass b → 0 ≤ left → left + lsum (a.drop (i + 1)) = lsum b → restM a i j b < f →
    restF a f i j left b = rowsV left (a.drop (i + 1)) b j
  | 0, _, _, _, _, _, _, _, _, _, h => absurd h (Nat.not_lt_zero _)
  | f + 1, i, j, left, b, hi, hj, hb, hl, hs, hf => by
    simp only [restF]
    by_cases hjb : j = b.length
    · rw [if_pos hjb]
      have hd : rowsV left (a.drop (i + 1)) b j = if left = 0 then plans (a.drop (i + 1)) b else 0 := by
        simp [rowsV, hjb, sumV]
      rw [hd]
      by_cases h0 : 0 < left
      · rw [if_pos h0, if_neg (by omega)]
      · have hl0 : left = 0 := by omega
        rw [if_neg h0, if_pos hl0]
        by_cases hia : i + 1 = a.length
        · rw [if_pos hia, List.drop_eq_nil_of_le (by omega)]
          rw [List.drop_eq_nil_of_le (by omega)] at hs
          simp only [lsum] at hs
          simp only [plans]
          rw [if_pos (by omega)]
        · rw [if_neg hia]
          have hia' : i + 1 < a.length := by omega
          have hx := ha _ (getD_mem 0 hia')
          rw [drop_getD 0 hia'] at hs ⊢
          simp only [lsum] at hs
          rw [restF_rowsV ha f (i + 1) 0 (a.getD (i + 1) 0) b hia' (Nat.zero_le _) hb hx.1 (by omega) (by rw [restM_c hjb hia'] at hf; omega)]
          simp [rowsV, plans]
    · rw [if_neg hjb, rowsV_step (by omega)]
      have hx := hb _ (getD_mem 0 (show j < b.length by omega))
      refine sumTo_congr _ fun x hx' => ?_
      refine restF_rowsV ha f i (j + 1) (left - x) (b.set j (b.getD j 0 - x)) hi (by rw [List.length_set]; omega) (inMass_set hb (by omega)) (by omega) (by rw [lsum_set _ _ _ (by omega)]; omega) ?_
      have := restM_d (a := a) (i := i) (y := b.getD j 0 - x) (show j < b.length by omega)
      omega

theorem countV_plans {a b : List Int} (ha : inMass a) (hb : inMass b) (h1 : 1 ≤ a.length) (hs : lsum a = lsum b) : countV a b = plans a b := by
  have hx := ha _ (getD_mem 0 (show 0 < a.length by omega))
  have hd : a = a.getD 0 0 :: a.drop 1 := by
    have := drop_getD 0 (show 0 < a.length by omega)
    simpa using this
  have hs' : a.getD 0 0 + lsum (a.drop (0 + 1)) = lsum b := by
    rw [← hs]
    conv => rhs; rw [hd]
    simp [lsum]
  unfold countV restV
  simp only [Int.toNat_zero]
  rw [restF_rowsV ha _ 0 0 (a.getD 0 0) b (by omega) (Nat.zero_le _) hb hx.1 hs' (Nat.lt_succ_self _)]
  conv => rhs; rw [hd]
  simp [rowsV, plans]

theorem sumTo_add (f g : Nat → Int) : ∀ (k : Nat), sumTo (fun x => f x + g x) k = sumTo f k + sumTo g k
  | 0 => rfl
  | k + 1 => by
    simp only [sumTo, sumTo_add f g k]
    omega

theorem sumV_add : ∀ (b : List Int) (t : Int) (f g : List Int → Int), sumV b t (fun r => f r + g r) = sumV b t f + sumV b t g
  | [], t, f, g => by
    simp only [sumV]
    split <;> simp
  | b :: bs, t, f, g => by
    simp only [sumV]
    rw [← sumTo_add]
    exact sumTo_congr _ fun x _ => sumV_add bs _ _ _

theorem sumV_zero : ∀ (b : List Int) (t : Int), sumV b t (fun _ => 0) = 0
  | [], t => by simp [sumV]
  | b :: bs, t => by
    simp only [sumV]
    exact sumTo_zero _ fun x _ => sumV_zero bs _

theorem sumV_sumTo (b : List Int) (t : Int) (G : Nat → List Int → Int) : ∀ (k : Nat), sumTo (fun y => sumV b t (G y)) k = sumV b t (fun q => sumTo (fun y => G y q) k)
  | 0 => (sumV_zero b t).symm
  | k + 1 => by
    simp only [sumTo]
    rw [sumV_add, sumV_sumTo b t G k]

theorem sumV_swap (l : List Int) (u : Int) : ∀ (b : List Int) (t : Int) (F : List Int → List Int → Int), sumV b t (fun r => sumV l u (fun q => F q r)) = sumV l u (fun q => sumV b t (fun r => F q r))
  | [], t, F => by
    simp only [sumV]
    split
    · rfl
    · exact (sumV_zero l u).symm
  | b :: bs, t, F => by
    simp only [sumV]
    rw [← sumV_sumTo]
    exact sumTo_congr _ fun x _ => sumV_swap l u bs _ _

theorem plans_col : ∀ (a : List Int) (b0 : Int) (bs : List Int), inMass a → inMass (b0 :: bs) → plans a (b0 :: bs) = sumV a b0 (fun r => plans r bs)
  | [], b0, bs, _, hb => by
    obtain ⟨h1, h2⟩ := inMass_cons.1 hb
    have := inMass_sum h2
    have e : lsum (b0 :: bs) = b0 + lsum bs := rfl
    simp only [plans, sumV]
    by_cases h : b0 = 0
    · rw [if_pos h]
      by_cases hz : lsum bs = 0
      · rw [if_pos hz, if_pos (by omega)]
      · rw [if_neg hz, if_neg (by omega)]
    · rw [if_neg h, if_neg (by omega)]
  | x :: l, b0, bs, ha, hb => by
    obtain ⟨h1, h2⟩ := inMass_cons.1 hb
    obtain ⟨h3, h4⟩ := inMass_cons.1 ha
    simp only [plans, sumV]
    rw [Int.min_comm b0 x]
    refine sumTo_congr _ fun y hy => ?_
    rw [sumV_congr bs (x - y) _ (fun r => sumV l (b0 - y) (fun q => plans q r)) h2 (fun r hr => plans_col l (b0 - y) r h4 (inMass_cons.2 ⟨by omega, hr.1⟩))]
    rw [sumV_swap]

theorem plans_nil : ∀ (a : List Int), inMass a → plans a [] = if lsum a = 0 then 1 else 0
  | [], _ => by simp [plans]
  | x :: l, ha => by
    obtain ⟨h1, h2⟩ := inMass_cons.1 ha
    have := inMass_sum h2
    have e : lsum (x :: l) = x + lsum l := rfl
    simp only [plans, sumV]
    rw [plans_nil l h2]
    by_cases h : x = 0
    · rw [if_pos h]
      by_cases hz : lsum l = 0
      · rw [if_pos hz, if_pos (by omega)]
      · rw [if_neg hz, if_neg (by omega)]
    · rw [if_neg h, if_neg (by omega)]

/-- In either direction there are equally many plans. -/
theorem plans_comm : ∀ (b a : List Int), inMass a → inMass b → plans a b = plans b a
  | [], a, ha, _ => plans_nil a ha
  | b0 :: bs, a, ha, hb => by
    rw [plans_col a b0 bs ha hb]
    simp only [plans]
    exact sumV_congr a b0 _ _ ha fun r hr => plans_comm bs r hr.1 (inMass_cons.1 hb).2

theorem sumTo_pos {f : Nat → Int} (k : Nat) (h : ∀ x, x < k + 1 → 0 ≤ f x) (hk : 0 < f k) : 0 < sumTo f (k + 1) := by
  have : ∀ m, m ≤ k → 0 ≤ sumTo f m := by
    intro m
    induction m with
    | zero => intro _; exact Int.le_refl _
    | succ m ih =>
      intro hm
      have h1 := ih (by omega)
      have h2 := h m (by omega)
      simp only [sumTo]
      omega
  have h1 := this k (Nat.le_refl _)
  simp only [sumTo]
  omega

theorem sumV_nonneg {b : List Int} {t : Int} {f : List Int → Int} (hb : inMass b) (h : ∀ r, LeftOf b t r → 0 ≤ f r) : 0 ≤ sumV b t f := by
  match b, hb, h with
  | [], _, h =>
    simp only [sumV]
    split
    · rename_i ht
      exact h [] ⟨fun x hx => by simp at hx, rfl, by simp [lsum, ht]⟩
    · exact Int.le_refl _
  | b :: bs, hb, h =>
    obtain ⟨h1, h2⟩ := inMass_cons.1 hb
    simp only [sumV]
    have : ∀ k, k ≤ (min t b + 1).toNat → 0 ≤ sumTo (fun x => sumV bs (t - x) (fun r => f ((b - x) :: r))) k := by
      intro k
      induction k with
      | zero => intro _; exact Int.le_refl _
      | succ k ih =>
        intro hk
        have h3 := ih (by omega)
        have h4 := sumV_nonneg (t := t - k) (f := fun r => f ((b - k) :: r)) h2 (fun r hr => h _ ⟨inMass_cons.2 ⟨by omega, hr.1⟩, by simp [hr.2.1], by
          have := hr.2.2
          simp only [lsum]
          omega⟩)
        simp only [sumTo]
        omega
    exact this _ (Nat.le_refl _)

theorem sumV_pos : ∀ (b : List Int) (t : Int) (f : List Int → Int), inMass b → 0 ≤ t → t ≤ lsum b → (∀ r, LeftOf b t r → 0 < f r) → 0 < sumV b t f
  | [], t, f, _, h0, h1, h => by
    simp only [lsum] at h1
    have ht : t = 0 := by omega
    simp only [sumV]
    rw [if_pos ht]
    exact h [] ⟨fun x hx => by simp at hx, rfl, by simp [lsum, ht]⟩
  | b :: bs, t, f, hb, h0, h1, h => by
    obtain ⟨h2, h3⟩ := inMass_cons.1 hb
    have h4 := inMass_sum h3
    simp only [lsum] at h1
    have hr : ∀ (x : Nat), (x : Int) ≤ min t b → ∀ r, LeftOf bs (t - x) r → 0 < f ((b - x) :: r) := fun x hx r hr => h _ ⟨inMass_cons.2 ⟨by omega, hr.1⟩, by simp [hr.2.1], by
      have := hr.2.2
      simp only [lsum]
      omega⟩
    simp only [sumV]
    have e : (min t b + 1).toNat = (min t b).toNat + 1 := by omega
    rw [e]
    refine sumTo_pos _ (fun x hx => sumV_nonneg h3 fun r hr' => Int.le_of_lt (hr x (by omega) r hr')) ?_
    exact sumV_pos bs _ _ h3 (by omega) (by omega) (hr _ (by omega))

theorem plans_pos : ∀ (a b : List Int), inMass a → inMass b → lsum a = lsum b → 0 < plans a b
  | [], b, _, _, h => by
    simp only [lsum] at h
    simp only [plans]
    rw [if_pos h.symm]
    decide
  | x :: l, b, ha, hb, h => by
    obtain ⟨h1, h2⟩ := inMass_cons.1 ha
    have h3 := inMass_sum h2
    simp only [lsum] at h
    simp only [plans]
    exact sumV_pos b x (plans l) hb h1.1 (by omega) fun r hr => plans_pos l r h2 hr.1 (by have := hr.2.2; omega)

theorem errCount_ok {a b : List Int} (h : errCount a b = 0) : errPair a b = 0 ∧ a.length ≤ 3 ∧ b.length ≤ 3 ∧ lsum a ≤ 20 := by
  unfold errCount at h
  split at h
  · split at h
    · exact ⟨by assumption, by assumption⟩
    · simp at h
  · contradiction

theorem errCount_comm {a b : List Int} (h : errCount a b = 0) : errCount b a = 0 := by
  obtain ⟨h1, h2, h3, h4⟩ := errCount_ok h
  obtain ⟨oa, ob, hs⟩ := errPair_ok h1
  have h5 : errPair b a = 0 := by simp [errPair, oa, ob, hs]
  unfold errCount
  rw [if_pos h5, if_pos ⟨h3, h2, by omega⟩]

theorem count_plans {a b : List Int} (h : errCount a b = 0) : countV a b = plans a b := by
  obtain ⟨oa, ob, hs⟩ := errPair_ok (errCount_ok h).1
  exact countV_plans (okMass_mem oa) (okMass_mem ob) (okMass_len oa).1 hs
theorem count_comm {a b : List Int} (h : errCount a b = 0) : countV b a = countV a b := by
  rw [count_plans h, count_plans (errCount_comm h)]
  obtain ⟨oa, ob, _⟩ := errPair_ok (errCount_ok h).1
  exact plans_comm a b (okMass_mem ob) (okMass_mem oa)
theorem count_pos {a b : List Int} (h : errCount a b = 0) : 0 < countV a b := by
  rw [count_plans h]
  obtain ⟨oa, ob, hs⟩ := errPair_ok (errCount_ok h).1
  exact plans_pos a b (okMass_mem oa) (okMass_mem ob) hs
end Go.Proofs.Ytnicofjegkkppaa
