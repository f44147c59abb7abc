/- How many plans the document counts. Conditions: in each contract. -/
import Derived.Test.YtnicofjegkkppaaFg
namespace Go.Proofs.Ytnicofjegkkppaa
open Go.RowKit Go.VS
set_option linter.unusedSimpArgs false
set_option linter.unusedVariables false

/-- f summed over all that is left of a list when t is taken away in all. -/
def sumV : List Int → Int → (List Int → Int) → Int
  | [], t, f => if t = 0 then f [] else 0
  | b :: bs, t, f => sumTo (fun x => sumV bs (t - x) (fun r => f ((b - x) :: r))) (min t b + 1).toNat

/-- The number of plans. -/
def plans : List Int → List Int → Int
  | [], b => if lsum b = 0 then 1 else 0
  | x :: l, b => sumV b x (plans l)

theorem inMass_cons {x : Int} {l : List Int} : inMass (x :: l) ↔ (0 ≤ x ∧ x ≤ 30) ∧ inMass l := by
  unfold inMass
  simp only [List.mem_cons, forall_eq_or_imp]

theorem inMass_sum {l : List Int} (h : inMass l) : 0 ≤ lsum l ∧ lsum l ≤ 30 * l.length := lsum_bound 30 (by omega) l h
theorem inMass_drop {l : List Int} (h : inMass l) (k : Nat) : inMass (l.drop k) := fun x hx => h x (List.mem_of_mem_drop hx)
theorem inMass_take {l : List Int} (h : inMass l) (k : Nat) : inMass (l.take k) := fun x hx => h x (List.mem_of_mem_take hx)

theorem sumTo_congr {f g : Nat → Int} : ∀ (k : Nat), (∀ x, x < k → f x = g x) → sumTo f k = sumTo g k
  | 0, _ => rfl
  | k + 1, h => by
    simp only [sumTo]
    rw [sumTo_congr k (fun x hx => h x (by omega)), h k (by omega)]

theorem sumTo_zero {f : Nat → Int} (k : Nat) (h : ∀ x, x < k → f x = 0) : sumTo f k = 0 := by
  induction k with
  | zero => rfl
  | succ k ih =>
    simp only [sumTo]
    rw [ih (fun x hx => h x (by omega)), h k (by omega)]
    rfl

/-- What is left: in range, of the same length, and t less. -/
def LeftOf (b : List Int) (t : Int) (r : List Int) : Prop := inMass r ∧ r.length = b.length ∧ lsum r = lsum b - t

theorem sumV_congr : ∀ (b : List Int) (t : Int) (f g : List Int → Int), inMass b → (∀ r, LeftOf b t r → f r = g r) → sumV b t f = sumV b t g
  | [], t, f, g, _, h => by
    simp only [sumV]
    split
    · rename_i ht
      exact h [] ⟨fun x hx => by simp at hx, rfl, by simp [lsum, ht]⟩
    · rfl
  | b :: bs, t, f, g, hb, h => by
    simp only [sumV]
    obtain ⟨hb0, hbs⟩ := inMass_cons.1 hb
    refine sumTo_congr _ fun x hx => sumV_congr bs (t - x) _ _ hbs fun r hr => h _ ⟨inMass_cons.2 ⟨by omega, hr.1⟩, by simp [hr.2.1], ?_⟩
    have := hr.2.2
    simp only [lsum]
    omega

theorem sumV_bound (M : Int) (hM : 0 ≤ M) : ∀ (b : List Int) (t : Int) (f : List Int → Int), inMass b → (∀ r, LeftOf b t r → 0 ≤ f r ∧ f r ≤ M) → 0 ≤ sumV b t f ∧ sumV b t f ≤ 31 ^ b.length * M
  | [], t, f, _, h => by
    simp only [sumV, List.length_nil, Int.pow_zero, Int.one_mul]
    split
    · rename_i ht
      exact h [] ⟨fun x hx => by simp at hx, rfl, by simp [lsum, ht]⟩
    · exact ⟨Int.le_refl _, hM⟩
  | b :: bs, t, f, hb, h => by
    obtain ⟨hb0, hbs⟩ := inMass_cons.1 hb
    have hp : (0 : Int) ≤ 31 ^ bs.length * M := Int.mul_nonneg (Int.pow_nonneg (by omega)) hM
    have h1 := sumTo_bound (M := (31 : Int) ^ bs.length * M) (f := fun x : Nat => sumV bs (t - x) (fun r => f ((b - x) :: r))) (min t b + 1).toNat (fun x hx => sumV_bound M hM bs (t - x) _ hbs fun r hr => h _ ⟨inMass_cons.2 ⟨by omega, hr.1⟩, by simp [hr.2.1], by
      have := hr.2.2
      simp only [lsum]
      omega⟩)
    simp only [sumV]
    refine ⟨h1.1, Int.le_trans h1.2 ?_⟩
    rw [List.length_cons, Int.pow_succ, Int.mul_comm (31 ^ bs.length) 31, Int.mul_assoc]
    exact Int.mul_le_mul_of_nonneg_right (by omega) hp

theorem plans_bound : ∀ (a b : List Int), inMass b → 0 ≤ plans a b ∧ plans a b ≤ 31 ^ (a.length * b.length)
  | [], b, _ => by
    simp only [plans, List.length_nil, Nat.zero_mul, Int.pow_zero]
    split <;> omega
  | x :: l, b, hb => by
    simp only [plans]
    have h1 := sumV_bound ((31 : Int) ^ (l.length * b.length)) (Int.pow_nonneg (by omega)) b x (plans l) hb (fun r hr => by
      have := plans_bound l r hr.1
      rw [hr.2.1] at this
      exact this)
    rw [List.length_cons, Nat.add_mul, Nat.one_mul, Int.pow_add, Int.mul_comm (31 ^ (l.length * b.length))]
    exact h1

theorem sumV_one : ∀ (b : List Int) (t : Int), inMass b → lsum b = t → sumV b t (fun r => if lsum r = 0 then 1 else 0) = 1
  | [], t, _, h => by
    simp only [lsum] at h
    simp [sumV, ← h, lsum]
  | b :: bs, t, hb, h => by
    obtain ⟨hb0, hbs⟩ := inMass_cons.1 hb
    have hs := inMass_sum hbs
    simp only [lsum] at h
    simp only [sumV]
    have e : (min t b + 1).toNat = b.toNat + 1 := by omega
    rw [e]
    simp only [sumTo]
    rw [sumTo_zero]
    · have e2 : ((b.toNat : Nat) : Int) = b := by omega
      rw [e2, Int.sub_self, Int.zero_add]
      rw [sumV_congr bs (t - b) _ (fun r => if lsum r = 0 then 1 else 0) hbs (fun r _ => by simp [lsum])]
      exact sumV_one bs (t - b) hbs (by omega)
    · intro x hx
      rw [sumV_congr bs (t - x) _ (fun _ => 0) hbs (fun r hr => by
        have h1 := inMass_sum hr.1
        have h2 := hr.2.2
        exact if_neg (by simp only [lsum]; omega))]
      have := sumV_bound 0 (by omega) bs (t - x) (fun _ => 0) hbs (fun _ _ => by omega)
      rw [Int.mul_zero] at this
      omega

theorem plans_one {a : Int} {b : List Int} (hb : inMass b) (h : a = lsum b) : plans [a] b = 1 := by
  simp only [plans]
  exact sumV_one b a hb h.symm

/-- The last one takes all that is left. -/
theorem sumV_last {b t : Int} {f : List Int → Int} (hb : 0 ≤ b) (ht : 0 ≤ t) : sumV [b] t f = if b < t then 0 else f [b - t] := by
  simp only [sumV]
  split
  · rename_i h
    exact sumTo_zero _ fun x hx => by rw [if_neg (by omega)]
  · rename_i h
    have e : (min t b + 1).toNat = t.toNat + 1 := by omega
    rw [e]
    simp only [sumTo]
    rw [sumTo_zero _ (fun x hx => by rw [if_neg (by omega)]), if_pos (by omega)]
    have e2 : ((t.toNat : Nat) : Int) = t := by omega
    rw [e2, Int.zero_add]

def planPre (a b : List Int) : Prop := a.length ≤ 3 ∧ b.length ≤ 3 ∧ 1 ≤ b.length ∧ inMass a ∧ inMass b
def rowsV (left : Int) (a b : List Int) (k : Nat) : Int := sumV (b.drop k) left (fun r => plans a (b.take k ++ r))

theorem plans_big {a b : List Int} (h : planPre a b) : 0 ≤ plans a b ∧ plans a b ≤ 26439622160671 := by
  obtain ⟨h1, h2, h3, h4, h5⟩ := h
  have hp := plans_bound a b h5
  refine ⟨hp.1, Int.le_trans hp.2 ?_⟩
  have h6 : a.length * b.length ≤ 9 := by
    have : a.length * b.length ≤ 3 * 3 := Nat.mul_le_mul h1 h2
    omega
  have h3 := Int.ofNat_le.2 (Nat.pow_le_pow_right (n := 31) (by omega) h6)
  simpa using h3

theorem inMass_append {a b : List Int} (ha : inMass a) (hb : inMass b) : inMass (a ++ b) := fun x hx => (List.mem_append.1 hx).elim (ha x) (hb x)

theorem lsum_append (a b : List Int) : lsum (a ++ b) = lsum a + lsum b := by
  induction a with
  | nil => simp [lsum]
  | cons x a ih => simp only [List.cons_append, lsum, ih]; omega

theorem rowsV_big {left : Int} {a b : List Int} {k : Nat} (h : planPre a b) (hl : a.length ≤ 2) : 0 ≤ rowsV left a b k ∧ rowsV left a b k ≤ 26439622160671 := by
  obtain ⟨h1, h2, h3, h4, h5⟩ := h
  have h6 := sumV_bound ((31 : Int) ^ (a.length * b.length)) (Int.pow_nonneg (by omega)) (b.drop k) left (fun r => plans a (b.take k ++ r)) (inMass_drop h5 k) (fun r hr => by
    have h7 := plans_bound a (b.take k ++ r) (inMass_append (inMass_take h5 k) hr.1)
    have h8 : (b.take k ++ r).length = b.length := by
      rw [List.length_append, hr.2.1, List.length_drop, List.length_take]
      omega
    rw [h8] at h7
    exact h7)
  refine ⟨h6.1, Int.le_trans h6.2 ?_⟩
  rw [← Int.pow_add]
  have h9 : (b.drop k).length + a.length * b.length ≤ 9 := by
    have : a.length * b.length ≤ 2 * 3 := Nat.mul_le_mul hl h2
    rw [List.length_drop]
    omega
  have h3 := Int.ofNat_le.2 (Nat.pow_le_pow_right (n := 31) (by omega) h9)
  simpa using h3

theorem rowsV_last {left : Int} {a b : List Int} {k : Nat} (hk : k + 1 = b.length) (hb : inMass b) (hl : 0 ≤ left) : rowsV left a b k = if b.getD k 0 < left then 0 else plans a (b.set k (b.getD k 0 - left)) := by
  have hx := hb _ (getD_mem 0 (show k < b.length by omega))
  unfold rowsV
  rw [drop_getD 0 (show k < b.length by omega), List.drop_eq_nil_of_le (by omega), sumV_last hx.1 hl]
  congr 2
  rw [List.set_eq_take_append_cons_drop, if_pos (by omega), List.drop_eq_nil_of_le (by omega)]

theorem rowsV_step {left : Int} {a b : List Int} {k : Nat} (hk : k < b.length) : rowsV left a b k = sumTo (fun x => rowsV (left - x) a (b.set k (b.getD k 0 - x)) (k + 1)) (min left (b.getD k 0) + 1).toNat := by
  unfold rowsV
  rw [drop_getD 0 (show k < b.length by omega)]
  simp only [sumV]
  refine sumTo_congr _ fun x _ => ?_
  have e1 : (b.set k (b.getD k 0 - x)).drop (k + 1) = b.drop (k + 1) := by rw [List.drop_set_of_lt (by omega)]
  have e2 : (b.set k (b.getD k 0 - x)).take (k + 1) = b.take k ++ [b.getD k 0 - x] := by
    rw [List.set_eq_take_append_cons_drop, if_pos (by omega), List.take_append, List.take_take, List.length_take]
    have : k + 1 - min k b.length = 1 := by omega
    rw [this, show min (k + 1) k = k by omega]
    simp
  rw [e1, e2]
  simp only [List.append_assoc, List.cons_append, List.nil_append]

@[push_cast] def plansCon (n : Nat) : Con := ⟨[.dat (.sl .int), .dat (.sl .int)], fun (x : List Int × List Int × Unit) => (planPre x.1 x.2.1 ∧ 1 ≤ x.1.length ∧ lsum x.1 = lsum x.2.1) ∧ x.1.length * 5 < n, fun (x : List Int × List Int × Unit) => { res := [.val .int (plans x.1 x.2.1)] }⟩
@[push_cast] def rowsCon (n : Nat) : Con := ⟨[.dat .int, .dat (.sl .int), .dat (.sl .int), .dat .int],
  fun (x : Int × List Int × List Int × Int × Unit) => (planPre x.2.1 x.2.2.1 ∧ 1 ≤ x.2.1.length ∧ x.2.1.length ≤ 2 ∧ 0 ≤ x.1 ∧ x.1 ≤ 30 ∧ x.1 + lsum x.2.1 = lsum x.2.2.1 ∧ 0 ≤ x.2.2.2.1 ∧ x.2.2.2.1 < x.2.2.1.length) ∧ x.2.1.length * 5 + (4 - x.2.2.2.1.toNat) < n,
  fun (x : Int × List Int × List Int × Int × Unit) => { res := [.val .int (rowsV x.1 x.2.1 x.2.2.1 x.2.2.2.1.toNat)] }⟩

theorem lsum_set : ∀ (l : List Int) (k : Nat) (y : Int), k < l.length → lsum (l.set k y) = lsum l - l.getD k 0 + y
  | [], _, _, h => by simp at h
  | x :: l, 0, y, _ => by simp [lsum]; omega
  | x :: l, k + 1, y, h => by
    have := lsum_set l k y (by simpa using h)
    simp only [List.set_cons_succ, lsum, this, List.getD_cons_succ]
    omega

theorem plans_step (n : Nat) (hr : FnSpec Try.prog 85 (rowsCon n)) : FnSpec Try.prog 63 (plansCon (n + 1)) := by
  refine FnSpec.of_tri' (E := know [(85, (rowsCon n))] [] [] []) (know_ok (all_cons hr all_nil) all_nil all_nil) Try.func63 rfl rfl (by kernel_rfl) ?_
  intro C x hE hnl hfit hpre
  simp only [Try.ntmps63, Try.results63, maxLen, Nat.reduceSub, Nat.reducePow, Nat.reduceAdd, Int.cast_ofNat_Int, push_cast] at hnl hfit hpre ⊢
  obtain ⟨(a : List Int), (b : List Int), _⟩ := x
  dsimp only at hfit hpre ⊢
  obtain ⟨⟨⟨p1, p2, p3, p4, p5⟩, p6, p7⟩, p8⟩ := hpre
  match a, p1, p4, p6, p7, p8, hfit with
  | [y], _, _, _, p7, _, hfit =>
    rw [plans_one p5 (by simpa [lsum] using p7)]
    repeat' (first | (refine goK (by assumption) ?_; iterate 4 (try clear hK K)) | (refine tri_seqk fun K hK => ?_) | ((first | (refine tri_region hE rfl ?_) | ((first | (refine tri_drawK hE 1 rfl (by kernel_rfl) ?_) | (refine tri_drawK hE 2 rfl (by kernel_rfl) ?_) | (refine tri_drawK hE 3 rfl (by kernel_rfl) ?_) | (refine tri_drawK hE 4 rfl (by kernel_rfl) ?_)); simp only [List.length_cons, List.length_nil, Nat.reduceAdd, Nat.reduceSub, List.take_succ_cons, List.take_zero, List.drop_succ_cons, List.drop_zero])); simp +contextual only [hnl, ↓runK_nil, ↓runK_plain, ↓runK_guard, ↓runQ_nil, ↓runQ_plain, ↓runQ_guard, push_cast, Int.reduceToNat, Int.cast_ofNat_Int, Nat.reduceBEq, Nat.reduceMul, Nat.reduceEqDiff, reduceCtorEq, Nat.reduceAdd]) | (refine tri_block ?_) | (refine tri_skip ?_; simp only [thenQ, blockQ, if_true, if_false, Nat.reduceEqDiff, reduceCtorEq]) | (refine tri_exit ?_; simp only [thenQ, blockQ, if_true, if_false, Nat.reduceEqDiff, reduceCtorEq]) | (refine tri_cond (by simp only [push_cast, Int.reduceToNat, Int.cast_ofNat_Int, Nat.reduceBEq, Nat.reduceMul, Nat.reduceEqDiff, reduceCtorEq, Nat.reduceAdd]; rfl) (fun hb => ?_) (fun hb => ?_) <;> (try simp only [decide_eq_true_eq, decide_eq_false_iff_not, Bool.not_eq_true', Bool.not_eq_false', reduceCtorEq, Bool.true_eq_false, Bool.false_eq_true] at hb) <;> (try omega)) | (refine tri_unk (by simp only [push_cast, Int.reduceToNat, Int.cast_ofNat_Int, Nat.reduceBEq, Nat.reduceMul, Nat.reduceEqDiff, reduceCtorEq, Nat.reduceAdd]) ?_ ?_) | (refine tri_ret ?_; simp only [push_cast, Int.reduceToNat, Int.cast_ofNat_Int, Nat.reduceBEq, Nat.reduceMul, Nat.reduceEqDiff, reduceCtorEq, Nat.reduceAdd]) | (refine And.intro (by first | omega | (unfold InR; omega) | assumption | decide) ?_) | (refine ⟨fun hc => ?_, fun hc => ?_⟩) | (intro hc; try omega))
  | y :: z :: l, p1, p4, p6, p7, p8, hfit =>
    obtain ⟨q1, q2⟩ := inMass_cons.1 p4
    simp only [List.length_cons] at p1 p8 hfit
    simp only [lsum] at p7
    repeat' (first | (refine goK (by assumption) ?_; iterate 4 (try clear hK K)) | (refine tri_seqk fun K hK => ?_) | ((first | (refine tri_region hE rfl ?_) | ((first | (refine tri_drawK hE 1 rfl (by kernel_rfl) ?_) | (refine tri_drawK hE 2 rfl (by kernel_rfl) ?_) | (refine tri_drawK hE 3 rfl (by kernel_rfl) ?_) | (refine tri_drawK hE 4 rfl (by kernel_rfl) ?_)); simp only [List.length_cons, List.length_nil, Nat.reduceAdd, Nat.reduceSub, List.take_succ_cons, List.take_zero, List.drop_succ_cons, List.drop_zero])); simp +contextual only [hnl, ↓runK_nil, ↓runK_plain, ↓runK_guard, ↓runQ_nil, ↓runQ_plain, ↓runQ_guard, push_cast, Int.reduceToNat, Int.cast_ofNat_Int, Nat.reduceBEq, Nat.reduceMul, Nat.reduceEqDiff, reduceCtorEq, Nat.reduceAdd]) | (refine tri_block ?_) | (refine tri_skip ?_; simp only [thenQ, blockQ, if_true, if_false, Nat.reduceEqDiff, reduceCtorEq]) | (refine tri_exit ?_; simp only [thenQ, blockQ, if_true, if_false, Nat.reduceEqDiff, reduceCtorEq]) | (refine tri_cond (by simp only [push_cast, Int.reduceToNat, Int.cast_ofNat_Int, Nat.reduceBEq, Nat.reduceMul, Nat.reduceEqDiff, reduceCtorEq, Nat.reduceAdd]; rfl) (fun hb => ?_) (fun hb => ?_) <;> (try simp only [decide_eq_true_eq, decide_eq_false_iff_not, Bool.not_eq_true', Bool.not_eq_false', reduceCtorEq, Bool.true_eq_false, Bool.false_eq_true] at hb) <;> (try omega)) | (refine tri_unk (by simp only [push_cast, Int.reduceToNat, Int.cast_ofNat_Int, Nat.reduceBEq, Nat.reduceMul, Nat.reduceEqDiff, reduceCtorEq, Nat.reduceAdd]) ?_ ?_) | (refine tri_ret ?_; simp only [push_cast, Int.reduceToNat, Int.cast_ofNat_Int, Nat.reduceBEq, Nat.reduceMul, Nat.reduceEqDiff, reduceCtorEq, Nat.reduceAdd]) | (refine And.intro (by first | omega | (unfold InR; omega) | assumption | decide) ?_) | (refine ⟨fun hc => ?_, fun hc => ?_⟩) | (intro hc; try omega))
    · refine ⟨⟨⟨⟨by simp only [List.length_cons]; omega, p2, p3, q2, p5⟩, by omega, by omega, q1.1, q1.2, by simp only [lsum]; omega, by omega, by omega⟩, by omega⟩, ?_⟩
      repeat' (first | (refine goK (by assumption) ?_; iterate 4 (try clear hK K)) | (refine tri_seqk fun K hK => ?_) | ((first | (refine tri_region hE rfl ?_) | ((first | (refine tri_drawK hE 1 rfl (by kernel_rfl) ?_) | (refine tri_drawK hE 2 rfl (by kernel_rfl) ?_) | (refine tri_drawK hE 3 rfl (by kernel_rfl) ?_) | (refine tri_drawK hE 4 rfl (by kernel_rfl) ?_)); simp only [List.length_cons, List.length_nil, Nat.reduceAdd, Nat.reduceSub, List.take_succ_cons, List.take_zero, List.drop_succ_cons, List.drop_zero])); simp +contextual only [hnl, ↓runK_nil, ↓runK_plain, ↓runK_guard, ↓runQ_nil, ↓runQ_plain, ↓runQ_guard, push_cast, Int.reduceToNat, Int.cast_ofNat_Int, Nat.reduceBEq, Nat.reduceMul, Nat.reduceEqDiff, reduceCtorEq, Nat.reduceAdd]) | (refine tri_block ?_) | (refine tri_skip ?_; simp only [thenQ, blockQ, if_true, if_false, Nat.reduceEqDiff, reduceCtorEq]) | (refine tri_exit ?_; simp only [thenQ, blockQ, if_true, if_false, Nat.reduceEqDiff, reduceCtorEq]) | (refine tri_cond (by simp only [push_cast, Int.reduceToNat, Int.cast_ofNat_Int, Nat.reduceBEq, Nat.reduceMul, Nat.reduceEqDiff, reduceCtorEq, Nat.reduceAdd]; rfl) (fun hb => ?_) (fun hb => ?_) <;> (try simp only [decide_eq_true_eq, decide_eq_false_iff_not, Bool.not_eq_true', Bool.not_eq_false', reduceCtorEq, Bool.true_eq_false, Bool.false_eq_true] at hb) <;> (try omega)) | (refine tri_unk (by simp only [push_cast, Int.reduceToNat, Int.cast_ofNat_Int, Nat.reduceBEq, Nat.reduceMul, Nat.reduceEqDiff, reduceCtorEq, Nat.reduceAdd]) ?_ ?_) | (refine tri_ret ?_; simp only [push_cast, Int.reduceToNat, Int.cast_ofNat_Int, Nat.reduceBEq, Nat.reduceMul, Nat.reduceEqDiff, reduceCtorEq, Nat.reduceAdd]) | (refine And.intro (by first | omega | (unfold InR; omega) | assumption | decide) ?_) | (refine ⟨fun hc => ?_, fun hc => ?_⟩) | (intro hc; try omega))
      simp [rowsV, plans]

theorem rows_step (n : Nat) (hc : FnSpec Try.prog 63 (plansCon n)) (hr : FnSpec Try.prog 85 (rowsCon n)) : FnSpec Try.prog 85 (rowsCon (n + 1)) := by
  refine FnSpec.of_tri' (E := know [(85, (rowsCon n)), (63, (plansCon n))] [] [] [24, 47]) (know_ok (all_cons hr (all_cons hc all_nil)) all_nil all_nil) Try.func85 rfl rfl (by kernel_rfl) ?_
  intro C x hE hnl hfit hpre
  simp only [Try.ntmps85, Try.results85, maxLen, Nat.reduceSub, Nat.reducePow, Nat.reduceAdd, Int.cast_ofNat_Int, push_cast] at hnl hfit hpre ⊢
  obtain ⟨(left : Int), (a : List Int), (b : List Int), (k0 : Int), _⟩ := x
  dsimp only at hfit hpre ⊢
  obtain ⟨⟨⟨p1, p2, p3, p4, p5⟩, p6, p7, p8, p9, p10, p11, p12⟩, p13⟩ := hpre
  obtain ⟨k, rfl⟩ : ∃ k : Nat, k0 = k := ⟨k0.toNat, by omega⟩
  have hbk := p5 _ (getD_mem 0 (show k < b.length by omega))
  by_cases hk : k + 1 = b.length
  · rw [Int.toNat_natCast, rowsV_last hk p5 p8]
    repeat' (first | (refine goK (by assumption) ?_; iterate 4 (try clear hK K)) | (refine tri_seqk fun K hK => ?_) | ((first | (refine tri_region hE rfl ?_) | ((first | (refine tri_drawK hE 1 rfl (by kernel_rfl) ?_) | (refine tri_drawK hE 2 rfl (by kernel_rfl) ?_) | (refine tri_drawK hE 3 rfl (by kernel_rfl) ?_) | (refine tri_drawK hE 4 rfl (by kernel_rfl) ?_)); simp only [List.length_cons, List.length_nil, Nat.reduceAdd, Nat.reduceSub, List.take_succ_cons, List.take_zero, List.drop_succ_cons, List.drop_zero])); simp +contextual only [hnl, ↓runK_nil, ↓runK_plain, ↓runK_guard, ↓runQ_nil, ↓runQ_plain, ↓runQ_guard, push_cast, Int.reduceToNat, Int.cast_ofNat_Int, Nat.reduceBEq, Nat.reduceMul, Nat.reduceEqDiff, reduceCtorEq, Nat.reduceAdd]) | (refine tri_block ?_) | (refine tri_skip ?_; simp only [thenQ, blockQ, if_true, if_false, Nat.reduceEqDiff, reduceCtorEq]) | (refine tri_exit ?_; simp only [thenQ, blockQ, if_true, if_false, Nat.reduceEqDiff, reduceCtorEq]) | (refine tri_cond (by simp only [push_cast, Int.reduceToNat, Int.cast_ofNat_Int, Nat.reduceBEq, Nat.reduceMul, Nat.reduceEqDiff, reduceCtorEq, Nat.reduceAdd]; rfl) (fun hb => ?_) (fun hb => ?_) <;> (try simp only [decide_eq_true_eq, decide_eq_false_iff_not, Bool.not_eq_true', Bool.not_eq_false', reduceCtorEq, Bool.true_eq_false, Bool.false_eq_true] at hb) <;> (try omega)) | (refine tri_unk (by simp only [push_cast, Int.reduceToNat, Int.cast_ofNat_Int, Nat.reduceBEq, Nat.reduceMul, Nat.reduceEqDiff, reduceCtorEq, Nat.reduceAdd]) ?_ ?_) | (refine tri_ret ?_; simp only [push_cast, Int.reduceToNat, Int.cast_ofNat_Int, Nat.reduceBEq, Nat.reduceMul, Nat.reduceEqDiff, reduceCtorEq, Nat.reduceAdd]) | (refine And.intro (by first | omega | (unfold InR; omega) | assumption | decide) ?_) | (refine ⟨fun hc => ?_, fun hc => ?_⟩) | (intro hc; try omega))
    · rw [if_pos hb]
    · refine ⟨⟨⟨⟨p1, by rw [List.length_set]; exact p2, by rw [List.length_set]; exact p3, p4, inMass_set p5 (by omega)⟩, p6, by rw [lsum_set _ _ _ (by omega)]; omega⟩, by omega⟩, ?_⟩
      repeat' (first | (refine goK (by assumption) ?_; iterate 4 (try clear hK K)) | (refine tri_seqk fun K hK => ?_) | ((first | (refine tri_region hE rfl ?_) | ((first | (refine tri_drawK hE 1 rfl (by kernel_rfl) ?_) | (refine tri_drawK hE 2 rfl (by kernel_rfl) ?_) | (refine tri_drawK hE 3 rfl (by kernel_rfl) ?_) | (refine tri_drawK hE 4 rfl (by kernel_rfl) ?_)); simp only [List.length_cons, List.length_nil, Nat.reduceAdd, Nat.reduceSub, List.take_succ_cons, List.take_zero, List.drop_succ_cons, List.drop_zero])); simp +contextual only [hnl, ↓runK_nil, ↓runK_plain, ↓runK_guard, ↓runQ_nil, ↓runQ_plain, ↓runQ_guard, push_cast, Int.reduceToNat, Int.cast_ofNat_Int, Nat.reduceBEq, Nat.reduceMul, Nat.reduceEqDiff, reduceCtorEq, Nat.reduceAdd]) | (refine tri_block ?_) | (refine tri_skip ?_; simp only [thenQ, blockQ, if_true, if_false, Nat.reduceEqDiff, reduceCtorEq]) | (refine tri_exit ?_; simp only [thenQ, blockQ, if_true, if_false, Nat.reduceEqDiff, reduceCtorEq]) | (refine tri_cond (by simp only [push_cast, Int.reduceToNat, Int.cast_ofNat_Int, Nat.reduceBEq, Nat.reduceMul, Nat.reduceEqDiff, reduceCtorEq, Nat.reduceAdd]; rfl) (fun hb => ?_) (fun hb => ?_) <;> (try simp only [decide_eq_true_eq, decide_eq_false_iff_not, Bool.not_eq_true', Bool.not_eq_false', reduceCtorEq, Bool.true_eq_false, Bool.false_eq_true] at hb) <;> (try omega)) | (refine tri_unk (by simp only [push_cast, Int.reduceToNat, Int.cast_ofNat_Int, Nat.reduceBEq, Nat.reduceMul, Nat.reduceEqDiff, reduceCtorEq, Nat.reduceAdd]) ?_ ?_) | (refine tri_ret ?_; simp only [push_cast, Int.reduceToNat, Int.cast_ofNat_Int, Nat.reduceBEq, Nat.reduceMul, Nat.reduceEqDiff, reduceCtorEq, Nat.reduceAdd]) | (refine And.intro (by first | omega | (unfold InR; omega) | assumption | decide) ?_) | (refine ⟨fun hc => ?_, fun hc => ?_⟩) | (intro hc; try omega))
      rw [if_neg hb]
  · rw [Int.toNat_natCast, rowsV_step (by omega)]
    repeat' (first | (refine goK (by assumption) ?_; iterate 4 (try clear hK K)) | (refine tri_seqk fun K hK => ?_) | ((first | (refine tri_region hE rfl ?_) | ((first | (refine tri_drawK hE 1 rfl (by kernel_rfl) ?_) | (refine tri_drawK hE 2 rfl (by kernel_rfl) ?_) | (refine tri_drawK hE 3 rfl (by kernel_rfl) ?_) | (refine tri_drawK hE 4 rfl (by kernel_rfl) ?_)); simp only [List.length_cons, List.length_nil, Nat.reduceAdd, Nat.reduceSub, List.take_succ_cons, List.take_zero, List.drop_succ_cons, List.drop_zero])); simp +contextual only [hnl, ↓runK_nil, ↓runK_plain, ↓runK_guard, ↓runQ_nil, ↓runQ_plain, ↓runQ_guard, push_cast, Int.reduceToNat, Int.cast_ofNat_Int, Nat.reduceBEq, Nat.reduceMul, Nat.reduceEqDiff, reduceCtorEq, Nat.reduceAdd]) | (refine tri_block ?_) | (refine tri_skip ?_; simp only [thenQ, blockQ, if_true, if_false, Nat.reduceEqDiff, reduceCtorEq]) | (refine tri_exit ?_; simp only [thenQ, blockQ, if_true, if_false, Nat.reduceEqDiff, reduceCtorEq]) | (refine tri_cond (by simp only [push_cast, Int.reduceToNat, Int.cast_ofNat_Int, Nat.reduceBEq, Nat.reduceMul, Nat.reduceEqDiff, reduceCtorEq, Nat.reduceAdd]; rfl) (fun hb => ?_) (fun hb => ?_) <;> (try simp only [decide_eq_true_eq, decide_eq_false_iff_not, Bool.not_eq_true', Bool.not_eq_false', reduceCtorEq, Bool.true_eq_false, Bool.false_eq_true] at hb) <;> (try omega)) | (refine tri_unk (by simp only [push_cast, Int.reduceToNat, Int.cast_ofNat_Int, Nat.reduceBEq, Nat.reduceMul, Nat.reduceEqDiff, reduceCtorEq, Nat.reduceAdd]) ?_ ?_) | (refine tri_ret ?_; simp only [push_cast, Int.reduceToNat, Int.cast_ofNat_Int, Nat.reduceBEq, Nat.reduceMul, Nat.reduceEqDiff, reduceCtorEq, Nat.reduceAdd]) | (refine And.intro (by first | omega | (unfold InR; omega) | assumption | decide) ?_) | (refine ⟨fun hc => ?_, fun hc => ?_⟩) | (intro hc; try omega))
    refine tri_loopI (fun m : Nat => AS.of [(0, .I left), (1, .one (.val (.sl .int) a)), (2, .one (.val (.sl .int) b)), (3, .I k), (10, .I (sumTo (fun x => rowsV (left - x) a (b.set k (b.getD k 0 - x)) (k + 1)) m)), (11, .I m)] [] [])
      (fun m => m ≤ (min left (b.getD k 0) + 1).toNat) (fun m => (min left (b.getD k 0) + 1).toNat - m) 0 (Nat.zero_le _) ?_ ?_
    · refine weak_of ?_ ?_ ?_ <;> simp only [push_cast, Int.reduceToNat, Int.cast_ofNat_Int, Nat.reduceBEq, Nat.reduceMul, Nat.reduceEqDiff, reduceCtorEq, Nat.reduceAdd]
      simp [sumTo]
    intro m hm K' hL
    have hP : ∀ x : Nat, (x : Int) ≤ min left (b.getD k 0) → planPre a (b.set k (b.getD k 0 - x)) := fun x hx => ⟨p1, by rw [List.length_set]; exact p2, by rw [List.length_set]; exact p3, p4, inMass_set p5 (by omega)⟩
    have hS := sumTo_bound (f := fun x : Nat => rowsV (left - x) a (b.set k (b.getD k 0 - x)) (k + 1)) (M := 26439622160671) m (fun x hx => rowsV_big (hP x (by omega)) p7)
    have e1 : ((k : Int) + 1).toNat = k + 1 := by omega
    repeat' (first | (refine goK (by assumption) ?_; iterate 4 (try clear hK K)) | (refine tri_seqk fun K hK => ?_) | ((first | (refine tri_region hE rfl ?_) | ((first | (refine tri_drawK hE 1 rfl (by kernel_rfl) ?_) | (refine tri_drawK hE 2 rfl (by kernel_rfl) ?_) | (refine tri_drawK hE 3 rfl (by kernel_rfl) ?_) | (refine tri_drawK hE 4 rfl (by kernel_rfl) ?_)); simp only [List.length_cons, List.length_nil, Nat.reduceAdd, Nat.reduceSub, List.take_succ_cons, List.take_zero, List.drop_succ_cons, List.drop_zero])); simp +contextual only [hnl, ↓runK_nil, ↓runK_plain, ↓runK_guard, ↓runQ_nil, ↓runQ_plain, ↓runQ_guard, push_cast, Int.reduceToNat, Int.cast_ofNat_Int, Nat.reduceBEq, Nat.reduceMul, Nat.reduceEqDiff, reduceCtorEq, Nat.reduceAdd]) | (refine tri_block ?_) | (refine tri_skip ?_; simp only [thenQ, blockQ, if_true, if_false, Nat.reduceEqDiff, reduceCtorEq]) | (refine tri_exit ?_; simp only [thenQ, blockQ, if_true, if_false, Nat.reduceEqDiff, reduceCtorEq]) | (refine tri_cond (by simp only [push_cast, Int.reduceToNat, Int.cast_ofNat_Int, Nat.reduceBEq, Nat.reduceMul, Nat.reduceEqDiff, reduceCtorEq, Nat.reduceAdd]; rfl) (fun hb => ?_) (fun hb => ?_) <;> (try simp only [decide_eq_true_eq, decide_eq_false_iff_not, Bool.not_eq_true', Bool.not_eq_false', reduceCtorEq, Bool.true_eq_false, Bool.false_eq_true] at hb) <;> (try omega)) | (refine tri_unk (by simp only [push_cast, Int.reduceToNat, Int.cast_ofNat_Int, Nat.reduceBEq, Nat.reduceMul, Nat.reduceEqDiff, reduceCtorEq, Nat.reduceAdd]) ?_ ?_) | (refine tri_ret ?_; simp only [push_cast, Int.reduceToNat, Int.cast_ofNat_Int, Nat.reduceBEq, Nat.reduceMul, Nat.reduceEqDiff, reduceCtorEq, Nat.reduceAdd]) | (refine And.intro (by first | omega | (unfold InR; omega) | assumption | decide) ?_) | (refine ⟨fun hc => ?_, fun hc => ?_⟩) | (intro hc; try omega))
    · have hV := rowsV_big (left := left - m) (k := k + 1) (hP m (by omega)) p7
      rw [e1]
      refine ⟨⟨⟨hP m (by omega), p6, p7, by omega, by omega, by rw [lsum_set _ _ _ (by omega)]; omega, by omega, by rw [List.length_set]; omega⟩, by omega⟩, ?_⟩
      repeat' (first | (refine goK (by assumption) ?_; iterate 4 (try clear hK K)) | (refine tri_seqk fun K hK => ?_) | ((first | (refine tri_region hE rfl ?_) | ((first | (refine tri_drawK hE 1 rfl (by kernel_rfl) ?_) | (refine tri_drawK hE 2 rfl (by kernel_rfl) ?_) | (refine tri_drawK hE 3 rfl (by kernel_rfl) ?_) | (refine tri_drawK hE 4 rfl (by kernel_rfl) ?_)); simp only [List.length_cons, List.length_nil, Nat.reduceAdd, Nat.reduceSub, List.take_succ_cons, List.take_zero, List.drop_succ_cons, List.drop_zero])); simp +contextual only [hnl, ↓runK_nil, ↓runK_plain, ↓runK_guard, ↓runQ_nil, ↓runQ_plain, ↓runQ_guard, push_cast, Int.reduceToNat, Int.cast_ofNat_Int, Nat.reduceBEq, Nat.reduceMul, Nat.reduceEqDiff, reduceCtorEq, Nat.reduceAdd]) | (refine tri_block ?_) | (refine tri_skip ?_; simp only [thenQ, blockQ, if_true, if_false, Nat.reduceEqDiff, reduceCtorEq]) | (refine tri_exit ?_; simp only [thenQ, blockQ, if_true, if_false, Nat.reduceEqDiff, reduceCtorEq]) | (refine tri_cond (by simp only [push_cast, Int.reduceToNat, Int.cast_ofNat_Int, Nat.reduceBEq, Nat.reduceMul, Nat.reduceEqDiff, reduceCtorEq, Nat.reduceAdd]; rfl) (fun hb => ?_) (fun hb => ?_) <;> (try simp only [decide_eq_true_eq, decide_eq_false_iff_not, Bool.not_eq_true', Bool.not_eq_false', reduceCtorEq, Bool.true_eq_false, Bool.false_eq_true] at hb) <;> (try omega)) | (refine tri_unk (by simp only [push_cast, Int.reduceToNat, Int.cast_ofNat_Int, Nat.reduceBEq, Nat.reduceMul, Nat.reduceEqDiff, reduceCtorEq, Nat.reduceAdd]) ?_ ?_) | (refine tri_ret ?_; simp only [push_cast, Int.reduceToNat, Int.cast_ofNat_Int, Nat.reduceBEq, Nat.reduceMul, Nat.reduceEqDiff, reduceCtorEq, Nat.reduceAdd]) | (refine And.intro (by first | omega | (unfold InR; omega) | assumption | decide) ?_) | (refine ⟨fun hc => ?_, fun hc => ?_⟩) | (intro hc; try omega))
      refine hL _ (m + 1) (by omega) (by omega) ?_
      refine weak_of ?_ ?_ ?_ <;> simp only [push_cast, Int.reduceToNat, Int.cast_ofNat_Int, Nat.reduceBEq, Nat.reduceMul, Nat.reduceEqDiff, reduceCtorEq, Nat.reduceAdd]
      rfl
    · have : m = (min left (b.getD k 0) + 1).toNat := by omega
      rw [this]

theorem plans_rows : ∀ n, FnSpec Try.prog 63 (plansCon n) ∧ FnSpec Try.prog 85 (rowsCon n)
  | 0 => ⟨FnSpec.zero ⟨_, Try.func63, rfl, rfl⟩, FnSpec.zero ⟨_, Try.func85, rfl, rfl⟩⟩
  | n + 1 => ⟨plans_step n (plans_rows n).2, rows_step n (plans_rows n).1 (plans_rows n).2⟩

@[push_cast] def plansC : Con := ⟨[.dat (.sl .int), .dat (.sl .int)], fun (x : List Int × List Int × Unit) => planPre x.1 x.2.1 ∧ 1 ≤ x.1.length ∧ lsum x.1 = lsum x.2.1, fun (x : List Int × List Int × Unit) => { res := [.val .int (plans x.1 x.2.1)] }⟩
theorem plans_spec : FnSpec Try.prog 63 plansC := FnSpec.all (m := fun (x : List Int × List Int × Unit) => x.1.length * 5) fun n => (plans_rows n).1

@[push_cast] def rcountCon : Con := ⟨[.dat (.sl .int), .dat (.sl .int)], fun _ => True, fun (x : List Int × List Int × Unit) => { res := [.val .int (if errCount x.1 x.2.1 = 0 then plans x.1 x.2.1 else 0), .val .int (errCount x.1 x.2.1)] }⟩
theorem rcount_spec : FnSpec Try.prog 19 rcountCon := by
  refine FnSpec.of_tri' (E := know [(62, pairCon), (57, totalCon), (63, plansC)] [] [] []) (know_ok (all_cons two_spec (all_cons rsum_spec (all_cons plans_spec all_nil))) all_nil all_nil) Try.func19 rfl rfl (by kernel_rfl) ?_
  intro C x hE hnl hfit hpre
  simp only [Try.ntmps19, Try.results19, maxLen, Nat.reduceSub, Nat.reducePow, Nat.reduceAdd, Int.cast_ofNat_Int, push_cast] at hnl hfit hpre ⊢
  obtain ⟨(a : List Int), (b : List Int), _⟩ := x
  dsimp only at hfit hpre ⊢
  by_cases he : errPair a b = 0
  · obtain ⟨oa, ob, hs⟩ := errPair_ok he
    have la := okMass_len oa
    have lb := okMass_len ob
    repeat' (first | (refine goK (by assumption) ?_; iterate 4 (try clear hK K)) | (refine tri_seqk fun K hK => ?_) | ((first | (refine tri_region hE rfl ?_) | ((first | (refine tri_drawK hE 1 rfl (by kernel_rfl) ?_) | (refine tri_drawK hE 2 rfl (by kernel_rfl) ?_) | (refine tri_drawK hE 3 rfl (by kernel_rfl) ?_) | (refine tri_drawK hE 4 rfl (by kernel_rfl) ?_)); simp only [List.length_cons, List.length_nil, Nat.reduceAdd, Nat.reduceSub, List.take_succ_cons, List.take_zero, List.drop_succ_cons, List.drop_zero])); simp +contextual only [hnl, ↓runK_nil, ↓runK_plain, ↓runK_guard, ↓runQ_nil, ↓runQ_plain, ↓runQ_guard, push_cast, Int.reduceToNat, Int.cast_ofNat_Int, Nat.reduceBEq, Nat.reduceMul, Nat.reduceEqDiff, reduceCtorEq, Nat.reduceAdd]) | (refine tri_block ?_) | (refine tri_skip ?_; simp only [thenQ, blockQ, if_true, if_false, Nat.reduceEqDiff, reduceCtorEq]) | (refine tri_exit ?_; simp only [thenQ, blockQ, if_true, if_false, Nat.reduceEqDiff, reduceCtorEq]) | (refine tri_cond (by simp only [push_cast, Int.reduceToNat, Int.cast_ofNat_Int, Nat.reduceBEq, Nat.reduceMul, Nat.reduceEqDiff, reduceCtorEq, Nat.reduceAdd]; rfl) (fun hb => ?_) (fun hb => ?_) <;> (try simp only [decide_eq_true_eq, decide_eq_false_iff_not, Bool.not_eq_true', Bool.not_eq_false', reduceCtorEq, Bool.true_eq_false, Bool.false_eq_true] at hb) <;> (try omega)) | (refine tri_unk (by simp only [push_cast, Int.reduceToNat, Int.cast_ofNat_Int, Nat.reduceBEq, Nat.reduceMul, Nat.reduceEqDiff, reduceCtorEq, Nat.reduceAdd]) ?_ ?_) | (refine tri_ret ?_; simp only [push_cast, Int.reduceToNat, Int.cast_ofNat_Int, Nat.reduceBEq, Nat.reduceMul, Nat.reduceEqDiff, reduceCtorEq, Nat.reduceAdd]) | (refine And.intro (by first | omega | (unfold InR; omega) | assumption | decide) ?_) | (refine ⟨fun hc => ?_, fun hc => ?_⟩) | (intro hc; try omega))
    · refine ⟨okMass_sum oa, ?_⟩
      repeat' (first | (refine goK (by assumption) ?_; iterate 4 (try clear hK K)) | (refine tri_seqk fun K hK => ?_) | ((first | (refine tri_region hE rfl ?_) | ((first | (refine tri_drawK hE 1 rfl (by kernel_rfl) ?_) | (refine tri_drawK hE 2 rfl (by kernel_rfl) ?_) | (refine tri_drawK hE 3 rfl (by kernel_rfl) ?_) | (refine tri_drawK hE 4 rfl (by kernel_rfl) ?_)); simp only [List.length_cons, List.length_nil, Nat.reduceAdd, Nat.reduceSub, List.take_succ_cons, List.take_zero, List.drop_succ_cons, List.drop_zero])); simp +contextual only [hnl, ↓runK_nil, ↓runK_plain, ↓runK_guard, ↓runQ_nil, ↓runQ_plain, ↓runQ_guard, push_cast, Int.reduceToNat, Int.cast_ofNat_Int, Nat.reduceBEq, Nat.reduceMul, Nat.reduceEqDiff, reduceCtorEq, Nat.reduceAdd]) | (refine tri_block ?_) | (refine tri_skip ?_; simp only [thenQ, blockQ, if_true, if_false, Nat.reduceEqDiff, reduceCtorEq]) | (refine tri_exit ?_; simp only [thenQ, blockQ, if_true, if_false, Nat.reduceEqDiff, reduceCtorEq]) | (refine tri_cond (by simp only [push_cast, Int.reduceToNat, Int.cast_ofNat_Int, Nat.reduceBEq, Nat.reduceMul, Nat.reduceEqDiff, reduceCtorEq, Nat.reduceAdd]; rfl) (fun hb => ?_) (fun hb => ?_) <;> (try simp only [decide_eq_true_eq, decide_eq_false_iff_not, Bool.not_eq_true', Bool.not_eq_false', reduceCtorEq, Bool.true_eq_false, Bool.false_eq_true] at hb) <;> (try omega)) | (refine tri_unk (by simp only [push_cast, Int.reduceToNat, Int.cast_ofNat_Int, Nat.reduceBEq, Nat.reduceMul, Nat.reduceEqDiff, reduceCtorEq, Nat.reduceAdd]) ?_ ?_) | (refine tri_ret ?_; simp only [push_cast, Int.reduceToNat, Int.cast_ofNat_Int, Nat.reduceBEq, Nat.reduceMul, Nat.reduceEqDiff, reduceCtorEq, Nat.reduceAdd]) | (refine And.intro (by first | omega | (unfold InR; omega) | assumption | decide) ?_) | (refine ⟨fun hc => ?_, fun hc => ?_⟩) | (intro hc; try omega))
      · rw [errCount_3 he (by omega)]; exact ⟨rfl, rfl⟩
      · have ec : errCount a b = 0 := errCount_0 he (by omega)
        refine ⟨⟨⟨by omega, by omega, by omega, okMass_mem oa, okMass_mem ob⟩, by omega, hs⟩, ?_⟩
        repeat' (first | (refine goK (by assumption) ?_; iterate 4 (try clear hK K)) | (refine tri_seqk fun K hK => ?_) | ((first | (refine tri_region hE rfl ?_) | ((first | (refine tri_drawK hE 1 rfl (by kernel_rfl) ?_) | (refine tri_drawK hE 2 rfl (by kernel_rfl) ?_) | (refine tri_drawK hE 3 rfl (by kernel_rfl) ?_) | (refine tri_drawK hE 4 rfl (by kernel_rfl) ?_)); simp only [List.length_cons, List.length_nil, Nat.reduceAdd, Nat.reduceSub, List.take_succ_cons, List.take_zero, List.drop_succ_cons, List.drop_zero])); simp +contextual only [hnl, ↓runK_nil, ↓runK_plain, ↓runK_guard, ↓runQ_nil, ↓runQ_plain, ↓runQ_guard, push_cast, Int.reduceToNat, Int.cast_ofNat_Int, Nat.reduceBEq, Nat.reduceMul, Nat.reduceEqDiff, reduceCtorEq, Nat.reduceAdd]) | (refine tri_block ?_) | (refine tri_skip ?_; simp only [thenQ, blockQ, if_true, if_false, Nat.reduceEqDiff, reduceCtorEq]) | (refine tri_exit ?_; simp only [thenQ, blockQ, if_true, if_false, Nat.reduceEqDiff, reduceCtorEq]) | (refine tri_cond (by simp only [push_cast, Int.reduceToNat, Int.cast_ofNat_Int, Nat.reduceBEq, Nat.reduceMul, Nat.reduceEqDiff, reduceCtorEq, Nat.reduceAdd]; rfl) (fun hb => ?_) (fun hb => ?_) <;> (try simp only [decide_eq_true_eq, decide_eq_false_iff_not, Bool.not_eq_true', Bool.not_eq_false', reduceCtorEq, Bool.true_eq_false, Bool.false_eq_true] at hb) <;> (try omega)) | (refine tri_unk (by simp only [push_cast, Int.reduceToNat, Int.cast_ofNat_Int, Nat.reduceBEq, Nat.reduceMul, Nat.reduceEqDiff, reduceCtorEq, Nat.reduceAdd]) ?_ ?_) | (refine tri_ret ?_; simp only [push_cast, Int.reduceToNat, Int.cast_ofNat_Int, Nat.reduceBEq, Nat.reduceMul, Nat.reduceEqDiff, reduceCtorEq, Nat.reduceAdd]) | (refine And.intro (by first | omega | (unfold InR; omega) | assumption | decide) ?_) | (refine ⟨fun hc => ?_, fun hc => ?_⟩) | (intro hc; try omega))
        rw [if_pos ec]
        exact ⟨rfl, ec.symm⟩
    · rw [errCount_3 he (by omega)]; exact ⟨rfl, rfl⟩
    · rw [errCount_3 he (by omega)]; exact ⟨rfl, rfl⟩
  · have e1 : errCount a b = errPair a b := by simp [errCount, he]
    rw [e1, if_neg he]
    repeat' (first | (refine goK (by assumption) ?_; iterate 4 (try clear hK K)) | (refine tri_seqk fun K hK => ?_) | ((first | (refine tri_region hE rfl ?_) | ((first | (refine tri_drawK hE 1 rfl (by kernel_rfl) ?_) | (refine tri_drawK hE 2 rfl (by kernel_rfl) ?_) | (refine tri_drawK hE 3 rfl (by kernel_rfl) ?_) | (refine tri_drawK hE 4 rfl (by kernel_rfl) ?_)); simp only [List.length_cons, List.length_nil, Nat.reduceAdd, Nat.reduceSub, List.take_succ_cons, List.take_zero, List.drop_succ_cons, List.drop_zero])); simp +contextual only [hnl, ↓runK_nil, ↓runK_plain, ↓runK_guard, ↓runQ_nil, ↓runQ_plain, ↓runQ_guard, push_cast, Int.reduceToNat, Int.cast_ofNat_Int, Nat.reduceBEq, Nat.reduceMul, Nat.reduceEqDiff, reduceCtorEq, Nat.reduceAdd]) | (refine tri_block ?_) | (refine tri_skip ?_; simp only [thenQ, blockQ, if_true, if_false, Nat.reduceEqDiff, reduceCtorEq]) | (refine tri_exit ?_; simp only [thenQ, blockQ, if_true, if_false, Nat.reduceEqDiff, reduceCtorEq]) | (refine tri_cond (by simp only [push_cast, Int.reduceToNat, Int.cast_ofNat_Int, Nat.reduceBEq, Nat.reduceMul, Nat.reduceEqDiff, reduceCtorEq, Nat.reduceAdd]; rfl) (fun hb => ?_) (fun hb => ?_) <;> (try simp only [decide_eq_true_eq, decide_eq_false_iff_not, Bool.not_eq_true', Bool.not_eq_false', reduceCtorEq, Bool.true_eq_false, Bool.false_eq_true] at hb) <;> (try omega)) | (refine tri_unk (by simp only [push_cast, Int.reduceToNat, Int.cast_ofNat_Int, Nat.reduceBEq, Nat.reduceMul, Nat.reduceEqDiff, reduceCtorEq, Nat.reduceAdd]) ?_ ?_) | (refine tri_ret ?_; simp only [push_cast, Int.reduceToNat, Int.cast_ofNat_Int, Nat.reduceBEq, Nat.reduceMul, Nat.reduceEqDiff, reduceCtorEq, Nat.reduceAdd]) | (refine And.intro (by first | omega | (unfold InR; omega) | assumption | decide) ?_) | (refine ⟨fun hc => ?_, fun hc => ?_⟩) | (intro hc; try omega))
end Go.Proofs.Ytnicofjegkkppaa
