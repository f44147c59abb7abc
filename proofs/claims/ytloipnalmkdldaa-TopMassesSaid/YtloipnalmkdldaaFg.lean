/- How many plans the program counts. Conditions: in each contract. -/
import Derived.Test.YtloipnalmkdldaaFd
namespace Go.Proofs.Ytloipnalmkdldaa
open Go.RowKit Go.VS
set_option linter.unusedSimpArgs false
set_option linter.unusedVariables false

/-- n summed over 0 .. k - 1. -/
def sumTo (f : Nat → Int) : Nat → Int
  | 0 => 0
  | k + 1 => sumTo f k + f k

/-- The ways to share what is left of the row i from the column j on, and then all later rows. -/
def restF (a : List Int) : Nat → Nat → Nat → Int → List Int → Int
  | 0, _, _, _, _ => 0
  | f + 1, i, j, left, b => if j = b.length then (if 0 < left then 0 else if i + 1 = a.length then 1 else restF a f (i + 1) 0 (a.getD (i + 1) 0) b)
    else sumTo (fun x => restF a f i (j + 1) (left - x) (b.set j (b.getD j 0 - x))) (min left (b.getD j 0) + 1).toNat

def restM (a : List Int) (i j : Nat) (b : List Int) : Nat := (a.length - i) * (b.length + 1) + (b.length - j)

def restQ (a : List Int) (x : Int × Int × Int × List Int × Unit) : Prop :=
  a.length ≤ 3 ∧ inMass a ∧ x.2.2.2.1.length ≤ 3 ∧ 1 ≤ x.2.2.2.1.length ∧ inMass x.2.2.2.1 ∧ 0 ≤ x.1 ∧ x.1 < a.length ∧ 0 ≤ x.2.1 ∧ x.2.1 ≤ x.2.2.2.1.length ∧ 0 ≤ x.2.2.1 ∧ x.2.2.1 ≤ 30
def restV (a : List Int) (x : Int × Int × Int × List Int × Unit) : Int := restF a (restM a x.1.toNat x.2.1.toNat x.2.2.2.1 + 1) x.1.toNat x.2.1.toNat x.2.2.1 x.2.2.2.1

@[push_cast] def restRec : Rec := ⟨[.sl .int], [], [.int, .int, .int, .sl .int], .int, fun (y : List Int × Unit) _ x => restQ y.1 x, fun (y : List Int × Unit) _ x => restV y.1 x⟩

theorem sumTo_bound {f : Nat → Int} {M : Int} : ∀ (k : Nat), (∀ x, x < k → 0 ≤ f x ∧ f x ≤ M) → 0 ≤ sumTo f k ∧ sumTo f k ≤ k * M
  | 0, _ => by simp [sumTo]
  | k + 1, h => by
    have h1 := sumTo_bound k (fun x hx => h x (by omega))
    have h2 := h k (by omega)
    simp only [sumTo, Int.natCast_add, Int.natCast_one, Int.add_mul, Int.one_mul]
    omega

theorem rest_bound (a : List Int) (ha : inMass a) : ∀ (f i j : Nat) (left : Int) (b : List Int), i < a.length → j ≤ b.length → inMass b → left ≤ 30 →
    0 ≤ restF a f i j left b ∧ restF a f i j left b ≤ (31 : Int) ^ ((a.length - i) * b.length - j)
  | 0, _, _, _, _, _, _, _, _ => by
    simp only [restF]
    exact ⟨Int.le_refl _, Int.pow_nonneg (by omega)⟩
  | f + 1, i, j, left, b, hi, hj, hb, hl => by
    simp only [restF]
    have hpos : ∀ n : Nat, (0 : Int) ≤ (31 : Int) ^ n := fun n => Int.pow_nonneg (by omega)
    split
    · rename_i hjb
      split
      · exact ⟨Int.le_refl _, hpos _⟩
      · split
        · rename_i hia
          have e : (a.length - i) * b.length - j = 0 := by
            have : a.length - i = 1 := by omega
            rw [this, Nat.one_mul, hjb, Nat.sub_self]
          rw [e]
          exact ⟨by decide, by decide⟩
        · rename_i hia
          have h1 := rest_bound a ha f (i + 1) 0 (a.getD (i + 1) 0) b (by omega) (by omega) hb (ha _ (getD_mem 0 (by omega))).2
          have e : (a.length - i) * b.length - j = (a.length - (i + 1)) * b.length - 0 := by
            have : a.length - i = (a.length - (i + 1)) + 1 := by omega
            rw [this, Nat.add_mul, Nat.one_mul, hjb]
            omega
          rw [e]
          exact h1
    · rename_i hjb
      have hbj := hb _ (getD_mem 0 (show j < b.length by omega))
      have e : (a.length - i) * b.length - j = ((a.length - i) * b.length - (j + 1)) + 1 := by
        have : b.length ≤ (a.length - i) * b.length := Nat.le_mul_of_pos_left _ (by omega)
        omega
      by_cases hmin : 0 ≤ min left (b.getD j 0)
      · have h1 := sumTo_bound (M := (31 : Int) ^ ((a.length - i) * b.length - (j + 1))) (f := fun x : Nat => restF a f i (j + 1) (left - x) (b.set j (b.getD j 0 - x))) (min left (b.getD j 0) + 1).toNat (fun x hx => by
          have := rest_bound a ha f i (j + 1) (left - x) (b.set j (b.getD j 0 - x)) hi (by rw [List.length_set]; omega) (inMass_set hb (by omega)) (by omega)
          rw [List.length_set] at this
          exact this)
        refine ⟨h1.1, Int.le_trans h1.2 ?_⟩
        rw [e, Int.pow_succ, Int.mul_comm]
        exact Int.mul_le_mul_of_nonneg_left (by omega) (hpos _)
      · have e0 : (min left (b.getD j 0) + 1).toNat = 0 := by omega
        rw [e0]
        exact ⟨Int.le_refl _, hpos _⟩

theorem restM_c {a : List Int} {i j : Nat} {b : List Int} (hj : j = b.length) (hi : i + 1 < a.length) : restM a i j b = restM a (i + 1) 0 b + 1 := by
  unfold restM
  have : a.length - i = (a.length - (i + 1)) + 1 := by omega
  rw [this, Nat.add_mul, Nat.one_mul]
  omega
theorem restM_d {a : List Int} {i j : Nat} {b : List Int} {y : Int} (hj : j < b.length) : restM a i (j + 1) (b.set j y) < restM a i j b := by
  unfold restM
  rw [List.length_set]
  omega
theorem restV_a {a : List Int} {i j : Nat} {left : Int} {b : List Int} (hj : j = b.length) (hl : 0 < left) : restV a ((i : Int), (j : Int), left, b, ()) = 0 := by
  simp [restV, restF, hj, hl]
theorem restV_b {a : List Int} {i j : Nat} {left : Int} {b : List Int} (hj : j = b.length) (hl : ¬ 0 < left) (hi : i + 1 = a.length) : restV a ((i : Int), (j : Int), left, b, ()) = 1 := by
  simp [restV, restF, hj, hl, hi]
theorem restV_c {a : List Int} {i j : Nat} {left : Int} {b : List Int} (hj : j = b.length) (hl : ¬ 0 < left) (hi : i + 1 < a.length) : restV a ((i : Int), (j : Int), left, b, ()) = restV a ((i : Int) + 1, 0, a.getD (i + 1) 0, b, ()) := by
  have e : restM a i j b = restM a (i + 1) 0 b + 1 := by
    unfold restM
    have : a.length - i = (a.length - (i + 1)) + 1 := by omega
    rw [this, Nat.add_mul, Nat.one_mul]
    omega
  have e1 : ((i : Int) + 1).toNat = i + 1 := by omega
  simp only [restV, Int.toNat_natCast, e1, Int.toNat_zero]
  rw [e]
  rw [restF]
  rw [if_pos hj, if_neg hl, if_neg (by omega)]
theorem restV_d {a : List Int} {i j : Nat} {left : Int} {b : List Int} (hj : j < b.length) : restV a ((i : Int), (j : Int), left, b, ()) =
    sumTo (fun x => restV a ((i : Int), (j : Int) + 1, left - x, b.set j (b.getD j 0 - x), ())) (min left (b.getD j 0) + 1).toNat := by
  have e1 : ((j : Int) + 1).toNat = j + 1 := by omega
  simp only [restV, Int.toNat_natCast, e1]
  rw [restF, if_neg (by omega)]
  congr 1
  funext x
  congr 1
  unfold restM
  rw [List.length_set]
  omega
theorem restV_bound {a : List Int} {x : Int × Int × Int × List Int × Unit} (h : restQ a x) : 0 ≤ restV a x ∧ restV a x ≤ 26439622160671 := by
  obtain ⟨q1, q2, q3, q4, q5, q6, q7, q8, q9, q10, q11⟩ := h
  have h1 := rest_bound a q2 (restM a x.1.toNat x.2.1.toNat x.2.2.2.1 + 1) x.1.toNat x.2.1.toNat x.2.2.1 x.2.2.2.1 (by omega) (by omega) q5 q11
  refine ⟨h1.1, Int.le_trans h1.2 ?_⟩
  have h2 : (a.length - x.1.toNat) * x.2.2.2.1.length - x.2.1.toNat ≤ 9 := by
    have : (a.length - x.1.toNat) * x.2.2.2.1.length ≤ 3 * 3 := Nat.mul_le_mul (by omega) q3
    omega
  have h3 := Int.ofNat_le.2 (Nat.pow_le_pow_right (n := 31) (by omega) h2)
  simpa using h3

abbrev RestT : Type := Int × Int × Int × List Int × List Int × (((Int × Int × Int × List Int × Unit) → Prop) × ((Int × Int × Int × List Int × Unit) → Int)) × Unit
@[push_cast] def restCon : Con := ⟨[.dat .int, .dat .int, .dat .int, .dat (.sl .int), .ptr (.sl .int), .pfn [.int, .int, .int, .sl .int] .int],
  fun (x : RestT) => restQ x.2.2.2.2.1 (x.1, x.2.1, x.2.2.1, x.2.2.2.1, ()) ∧ x.2.2.2.2.2.1.2 = restV x.2.2.2.2.1 ∧
    ∀ y, restQ x.2.2.2.2.1 y → restM x.2.2.2.2.1 y.1.toNat y.2.1.toNat y.2.2.2.1 < restM x.2.2.2.2.1 x.1.toNat x.2.1.toNat x.2.2.2.1 → x.2.2.2.2.2.1.1 y,
  fun (x : RestT) => { res := [.val .int (restV x.2.2.2.2.1 (x.1, x.2.1, x.2.2.1, x.2.2.2.1, ()))] }⟩

theorem rest_fn : FnSpec Try.prog 48 restCon := by
  refine FnSpec.of_tri' (E := know [(33, cloneCon)] [] [] []) (know_ok (all_cons clone_spec all_nil) all_nil all_nil) Try.func48 rfl rfl (by kernel_rfl) ?_
  intro C x hE hnl hfit hpre
  simp only [Try.ntmps48, Try.results48, maxLen, Nat.reduceSub, Nat.reducePow, Nat.reduceAdd, Int.cast_ofNat_Int, push_cast] at hnl hfit hpre ⊢
  obtain ⟨(i0 : Int), (j0 : Int), (left : Int), (b : List Int), (a : List Int), ⟨q, p⟩, _⟩ := x
  dsimp only at hfit hpre ⊢
  obtain ⟨hq, hp, hm⟩ := hpre
  subst hp
  obtain ⟨q1, q2, q3, q4, q5, q6, q7, q8, q9, q10, q11⟩ := hq
  dsimp only at q1 q2 q3 q4 q5 q6 q7 q8 q9 q10 q11
  obtain ⟨i, rfl⟩ : ∃ i : Nat, i0 = i := ⟨i0.toNat, by omega⟩
  obtain ⟨j, rfl⟩ : ∃ j : Nat, j0 = j := ⟨j0.toNat, by omega⟩
  by_cases hjb : j = b.length
  · by_cases hl : 0 < left
    · rw [restV_a hjb hl]
      repeat' (first|(refine goK (by assumption) ?_; iterate 4 (try clear hK K))|(refine tri_seqk fun K hK => ?_)|((first|refine tri_region hE rfl ?_|refine tri_ret ?_|((first|refine tri_drawP hE 1 rfl rfl (by kernel_rfl) ?_|refine tri_drawP hE 2 rfl rfl (by kernel_rfl) ?_|refine tri_drawP hE 3 rfl rfl (by kernel_rfl) ?_|refine tri_drawP hE 4 rfl rfl (by kernel_rfl) ?_); simp only [List.length_cons, List.length_nil, Nat.reduceAdd, Nat.reduceSub, List.take_succ_cons, List.take_zero, List.drop_succ_cons, List.drop_zero])); simp +contextual only [hnl, ↓kN, ↓kP, ↓kG, ↓qN, ↓qP, ↓qG, push_cast, Int.reduceEq, Int.reduceLT, Int.reduceLE, Int.reduceNeg, Nat.reduceLT, Nat.reduceLeDiff, Int.reduceToNat, Int.cast_ofNat_Int, Nat.reduceBEq, Nat.reduceMul, Nat.reduceEqDiff, reduceCtorEq, Nat.reduceAdd])|refine tri_block ?_|((first|refine tri_skip ?_|refine tri_exit ?_); simp only [thenQ, blockQ, if_true, if_false, Nat.reduceEqDiff, reduceCtorEq])|(refine tri_cond (by rfl) (fun hb => ?_) (fun hb => ?_) <;> (try simp only [decide_eq_true_eq, decide_eq_false_iff_not, Bool.not_eq_true', Bool.not_eq_false', reduceCtorEq, Bool.true_eq_false, Bool.false_eq_true] at hb) <;> (try omega))|refine tri_unk (by rfl) ?_ ?_|refine And.intro (by first|omega|(unfold InR; omega)|assumption|decide|exact ⟨_, _, rfl⟩) ?_|(refine ⟨fun hc => ?_, fun hc => ?_⟩)|(intro hc; try omega))
    · by_cases hi : i + 1 = a.length
      · rw [restV_b hjb hl hi]
        repeat' (first|(refine goK (by assumption) ?_; iterate 4 (try clear hK K))|(refine tri_seqk fun K hK => ?_)|((first|refine tri_region hE rfl ?_|refine tri_ret ?_|((first|refine tri_drawP hE 1 rfl rfl (by kernel_rfl) ?_|refine tri_drawP hE 2 rfl rfl (by kernel_rfl) ?_|refine tri_drawP hE 3 rfl rfl (by kernel_rfl) ?_|refine tri_drawP hE 4 rfl rfl (by kernel_rfl) ?_); simp only [List.length_cons, List.length_nil, Nat.reduceAdd, Nat.reduceSub, List.take_succ_cons, List.take_zero, List.drop_succ_cons, List.drop_zero])); simp +contextual only [hnl, ↓kN, ↓kP, ↓kG, ↓qN, ↓qP, ↓qG, push_cast, Int.reduceEq, Int.reduceLT, Int.reduceLE, Int.reduceNeg, Nat.reduceLT, Nat.reduceLeDiff, Int.reduceToNat, Int.cast_ofNat_Int, Nat.reduceBEq, Nat.reduceMul, Nat.reduceEqDiff, reduceCtorEq, Nat.reduceAdd])|refine tri_block ?_|((first|refine tri_skip ?_|refine tri_exit ?_); simp only [thenQ, blockQ, if_true, if_false, Nat.reduceEqDiff, reduceCtorEq])|(refine tri_cond (by rfl) (fun hb => ?_) (fun hb => ?_) <;> (try simp only [decide_eq_true_eq, decide_eq_false_iff_not, Bool.not_eq_true', Bool.not_eq_false', reduceCtorEq, Bool.true_eq_false, Bool.false_eq_true] at hb) <;> (try omega))|refine tri_unk (by rfl) ?_ ?_|refine And.intro (by first|omega|(unfold InR; omega)|assumption|decide|exact ⟨_, _, rfl⟩) ?_|(refine ⟨fun hc => ?_, fun hc => ?_⟩)|(intro hc; try omega))
      · rw [restV_c hjb hl (by omega)]
        have e1 : ((i : Int) + 1).toNat = i + 1 := by omega
        have hai : 0 ≤ a.getD (i + 1) 0 ∧ a.getD (i + 1) 0 ≤ 30 := q2 _ (getD_mem 0 (by omega))
        repeat' (first|(refine goK (by assumption) ?_; iterate 4 (try clear hK K))|(refine tri_seqk fun K hK => ?_)|((first|refine tri_region hE rfl ?_|refine tri_ret ?_|((first|refine tri_drawP hE 1 rfl rfl (by kernel_rfl) ?_|refine tri_drawP hE 2 rfl rfl (by kernel_rfl) ?_|refine tri_drawP hE 3 rfl rfl (by kernel_rfl) ?_|refine tri_drawP hE 4 rfl rfl (by kernel_rfl) ?_); simp only [List.length_cons, List.length_nil, Nat.reduceAdd, Nat.reduceSub, List.take_succ_cons, List.take_zero, List.drop_succ_cons, List.drop_zero])); simp +contextual only [hnl, ↓kN, ↓kP, ↓kG, ↓qN, ↓qP, ↓qG, push_cast, Int.reduceEq, Int.reduceLT, Int.reduceLE, Int.reduceNeg, Nat.reduceLT, Nat.reduceLeDiff, Int.reduceToNat, Int.cast_ofNat_Int, Nat.reduceBEq, Nat.reduceMul, Nat.reduceEqDiff, reduceCtorEq, Nat.reduceAdd])|refine tri_block ?_|((first|refine tri_skip ?_|refine tri_exit ?_); simp only [thenQ, blockQ, if_true, if_false, Nat.reduceEqDiff, reduceCtorEq])|(refine tri_cond (by rfl) (fun hb => ?_) (fun hb => ?_) <;> (try simp only [decide_eq_true_eq, decide_eq_false_iff_not, Bool.not_eq_true', Bool.not_eq_false', reduceCtorEq, Bool.true_eq_false, Bool.false_eq_true] at hb) <;> (try omega))|refine tri_unk (by rfl) ?_ ?_|refine And.intro (by first|omega|(unfold InR; omega)|assumption|decide|exact ⟨_, _, rfl⟩) ?_|(refine ⟨fun hc => ?_, fun hc => ?_⟩)|(intro hc; try omega))
        rw [e1]
        refine ⟨hm _ ⟨q1, q2, q3, q4, q5, by dsimp only; omega, by dsimp only; omega, by dsimp only; omega, by dsimp only; omega, hai.1, hai.2⟩ ?_, ?_⟩
        · dsimp only
          rw [e1, Int.toNat_natCast, Int.toNat_natCast, restM_c hjb (by omega)]
          simp
        repeat' (first|(refine goK (by assumption) ?_; iterate 4 (try clear hK K))|(refine tri_seqk fun K hK => ?_)|((first|refine tri_region hE rfl ?_|refine tri_ret ?_|((first|refine tri_drawP hE 1 rfl rfl (by kernel_rfl) ?_|refine tri_drawP hE 2 rfl rfl (by kernel_rfl) ?_|refine tri_drawP hE 3 rfl rfl (by kernel_rfl) ?_|refine tri_drawP hE 4 rfl rfl (by kernel_rfl) ?_); simp only [List.length_cons, List.length_nil, Nat.reduceAdd, Nat.reduceSub, List.take_succ_cons, List.take_zero, List.drop_succ_cons, List.drop_zero])); simp +contextual only [hnl, ↓kN, ↓kP, ↓kG, ↓qN, ↓qP, ↓qG, push_cast, Int.reduceEq, Int.reduceLT, Int.reduceLE, Int.reduceNeg, Nat.reduceLT, Nat.reduceLeDiff, Int.reduceToNat, Int.cast_ofNat_Int, Nat.reduceBEq, Nat.reduceMul, Nat.reduceEqDiff, reduceCtorEq, Nat.reduceAdd])|refine tri_block ?_|((first|refine tri_skip ?_|refine tri_exit ?_); simp only [thenQ, blockQ, if_true, if_false, Nat.reduceEqDiff, reduceCtorEq])|(refine tri_cond (by rfl) (fun hb => ?_) (fun hb => ?_) <;> (try simp only [decide_eq_true_eq, decide_eq_false_iff_not, Bool.not_eq_true', Bool.not_eq_false', reduceCtorEq, Bool.true_eq_false, Bool.false_eq_true] at hb) <;> (try omega))|refine tri_unk (by rfl) ?_ ?_|refine And.intro (by first|omega|(unfold InR; omega)|assumption|decide|exact ⟨_, _, rfl⟩) ?_|(refine ⟨fun hc => ?_, fun hc => ?_⟩)|(intro hc; try omega))
  · have hjl : j < b.length := by omega
    have hbj := q5 _ (getD_mem 0 hjl)
    rw [restV_d hjl]
    repeat' (first|(refine goK (by assumption) ?_; iterate 4 (try clear hK K))|(refine tri_seqk fun K hK => ?_)|((first|refine tri_region hE rfl ?_|refine tri_ret ?_|((first|refine tri_drawP hE 1 rfl rfl (by kernel_rfl) ?_|refine tri_drawP hE 2 rfl rfl (by kernel_rfl) ?_|refine tri_drawP hE 3 rfl rfl (by kernel_rfl) ?_|refine tri_drawP hE 4 rfl rfl (by kernel_rfl) ?_); simp only [List.length_cons, List.length_nil, Nat.reduceAdd, Nat.reduceSub, List.take_succ_cons, List.take_zero, List.drop_succ_cons, List.drop_zero])); simp +contextual only [hnl, ↓kN, ↓kP, ↓kG, ↓qN, ↓qP, ↓qG, push_cast, Int.reduceEq, Int.reduceLT, Int.reduceLE, Int.reduceNeg, Nat.reduceLT, Nat.reduceLeDiff, Int.reduceToNat, Int.cast_ofNat_Int, Nat.reduceBEq, Nat.reduceMul, Nat.reduceEqDiff, reduceCtorEq, Nat.reduceAdd])|refine tri_block ?_|((first|refine tri_skip ?_|refine tri_exit ?_); simp only [thenQ, blockQ, if_true, if_false, Nat.reduceEqDiff, reduceCtorEq])|(refine tri_cond (by rfl) (fun hb => ?_) (fun hb => ?_) <;> (try simp only [decide_eq_true_eq, decide_eq_false_iff_not, Bool.not_eq_true', Bool.not_eq_false', reduceCtorEq, Bool.true_eq_false, Bool.false_eq_true] at hb) <;> (try omega))|refine tri_unk (by rfl) ?_ ?_|refine And.intro (by first|omega|(unfold InR; omega)|assumption|decide|exact ⟨_, _, rfl⟩) ?_|(refine ⟨fun hc => ?_, fun hc => ?_⟩)|(intro hc; try omega))
    refine tri_loopI (fun k : Nat => AS.of [(0, .I i), (1, .I j), (2, .I left), (3, .one (.val (.sl .int) b)), (4, .one (.padr (.sl .int) a)), (5, .one (.pfn [.int, .int, .int, .sl .int] .int q (restV a))),
        (11, .I (sumTo (fun x => restV a ((i : Int), (j : Int) + 1, left - x, b.set j (b.getD j 0 - x), ())) k)), (56, .I (min left (b.getD j 0) + 1)), (57, .I k)] [] [])
      (fun k => k ≤ (min left (b.getD j 0) + 1).toNat) (fun k => (min left (b.getD j 0) + 1).toNat - k) 0 (Nat.zero_le _) ?_ ?_
    · refine weak_of ?_ ?_ ?_ <;> simp only [push_cast, Int.reduceEq, Int.reduceLT, Int.reduceLE, Int.reduceNeg, Nat.reduceLT, Nat.reduceLeDiff, Int.reduceToNat, Int.cast_ofNat_Int, Nat.reduceBEq, Nat.reduceMul, Nat.reduceEqDiff, reduceCtorEq, Nat.reduceAdd]
      simp [sumTo]
    intro k hk K' hL
    have hQ : ∀ x : Nat, (x : Int) ≤ min left (b.getD j 0) → restQ a ((i : Int), (j : Int) + 1, left - x, b.set j (b.getD j 0 - x), ()) := fun x hx =>
      ⟨q1, q2, by simp only [List.length_set]; exact q3, by simp only [List.length_set]; exact q4, inMass_set q5 (by omega), by dsimp only; omega, by dsimp only; omega, by dsimp only; omega, by simp only [List.length_set]; omega, by dsimp only; omega, by dsimp only; omega⟩
    have hS := sumTo_bound (f := fun x : Nat => restV a ((i : Int), (j : Int) + 1, left - x, b.set j (b.getD j 0 - x), ())) (M := 26439622160671) k (fun x hx => restV_bound (hQ x (by omega)))
    repeat' (first|(refine goK (by assumption) ?_; iterate 4 (try clear hK K))|(refine tri_seqk fun K hK => ?_)|((first|refine tri_region hE rfl ?_|refine tri_ret ?_|((first|refine tri_drawP hE 1 rfl rfl (by kernel_rfl) ?_|refine tri_drawP hE 2 rfl rfl (by kernel_rfl) ?_|refine tri_drawP hE 3 rfl rfl (by kernel_rfl) ?_|refine tri_drawP hE 4 rfl rfl (by kernel_rfl) ?_); simp only [List.length_cons, List.length_nil, Nat.reduceAdd, Nat.reduceSub, List.take_succ_cons, List.take_zero, List.drop_succ_cons, List.drop_zero])); simp +contextual only [hnl, ↓kN, ↓kP, ↓kG, ↓qN, ↓qP, ↓qG, push_cast, Int.reduceEq, Int.reduceLT, Int.reduceLE, Int.reduceNeg, Nat.reduceLT, Nat.reduceLeDiff, Int.reduceToNat, Int.cast_ofNat_Int, Nat.reduceBEq, Nat.reduceMul, Nat.reduceEqDiff, reduceCtorEq, Nat.reduceAdd])|refine tri_block ?_|((first|refine tri_skip ?_|refine tri_exit ?_); simp only [thenQ, blockQ, if_true, if_false, Nat.reduceEqDiff, reduceCtorEq])|(refine tri_cond (by rfl) (fun hb => ?_) (fun hb => ?_) <;> (try simp only [decide_eq_true_eq, decide_eq_false_iff_not, Bool.not_eq_true', Bool.not_eq_false', reduceCtorEq, Bool.true_eq_false, Bool.false_eq_true] at hb) <;> (try omega))|refine tri_unk (by rfl) ?_ ?_|refine And.intro (by first|omega|(unfold InR; omega)|assumption|decide|exact ⟨_, _, rfl⟩) ?_|(refine ⟨fun hc => ?_, fun hc => ?_⟩)|(intro hc; try omega))
    · have hV := restV_bound (hQ k (by omega))
      refine ⟨hm _ (hQ k (by omega)) ?_, ?_⟩
      · have e1 : ((j : Int) + 1).toNat = j + 1 := by omega
        dsimp only
        rw [e1, Int.toNat_natCast, Int.toNat_natCast]
        exact restM_d hjl
      repeat' (first|(refine goK (by assumption) ?_; iterate 4 (try clear hK K))|(refine tri_seqk fun K hK => ?_)|((first|refine tri_region hE rfl ?_|refine tri_ret ?_|((first|refine tri_drawP hE 1 rfl rfl (by kernel_rfl) ?_|refine tri_drawP hE 2 rfl rfl (by kernel_rfl) ?_|refine tri_drawP hE 3 rfl rfl (by kernel_rfl) ?_|refine tri_drawP hE 4 rfl rfl (by kernel_rfl) ?_); simp only [List.length_cons, List.length_nil, Nat.reduceAdd, Nat.reduceSub, List.take_succ_cons, List.take_zero, List.drop_succ_cons, List.drop_zero])); simp +contextual only [hnl, ↓kN, ↓kP, ↓kG, ↓qN, ↓qP, ↓qG, push_cast, Int.reduceEq, Int.reduceLT, Int.reduceLE, Int.reduceNeg, Nat.reduceLT, Nat.reduceLeDiff, Int.reduceToNat, Int.cast_ofNat_Int, Nat.reduceBEq, Nat.reduceMul, Nat.reduceEqDiff, reduceCtorEq, Nat.reduceAdd])|refine tri_block ?_|((first|refine tri_skip ?_|refine tri_exit ?_); simp only [thenQ, blockQ, if_true, if_false, Nat.reduceEqDiff, reduceCtorEq])|(refine tri_cond (by rfl) (fun hb => ?_) (fun hb => ?_) <;> (try simp only [decide_eq_true_eq, decide_eq_false_iff_not, Bool.not_eq_true', Bool.not_eq_false', reduceCtorEq, Bool.true_eq_false, Bool.false_eq_true] at hb) <;> (try omega))|refine tri_unk (by rfl) ?_ ?_|refine And.intro (by first|omega|(unfold InR; omega)|assumption|decide|exact ⟨_, _, rfl⟩) ?_|(refine ⟨fun hc => ?_, fun hc => ?_⟩)|(intro hc; try omega))
      refine hL _ (k + 1) (by omega) (by omega) ?_
      refine weak_of ?_ ?_ ?_ <;> simp only [push_cast, Int.reduceEq, Int.reduceLT, Int.reduceLE, Int.reduceNeg, Nat.reduceLT, Nat.reduceLeDiff, Int.reduceToNat, Int.cast_ofNat_Int, Nat.reduceBEq, Nat.reduceMul, Nat.reduceEqDiff, reduceCtorEq, Nat.reduceAdd]
      rfl
    · have : k = (min left (b.getD j 0) + 1).toNat := by omega
      rw [this]

theorem rest_spec : RecSpec Try.prog 48 restRec := by
  refine RecSpec.of rfl (fun (y : List Int × Unit) _ (x : Int × Int × Int × List Int × Unit) => restM y.1 x.1.toNat x.2.1.toNat x.2.2.2.1) (pre := restCon.pre) (post := restCon.post) rest_fn ?_ ?_
  · intro y1 y2 x q hq hm
    exact ⟨hq, rfl, fun z hz hlt => hm z hz hlt⟩
  · intro y1 y2 x q
    rfl

def countV (a b : List Int) : Int := restV a (0, 0, a.getD 0 0, b, ())
def errCount (a b : List Int) : Int := if errPair a b = 0 then (if a.length ≤ 3 ∧ b.length ≤ 3 ∧ lsum a ≤ 20 then 0 else 3) else errPair a b
@[push_cast] def countCon : Con := ⟨[.dat (.sl .int), .dat (.sl .int)], fun _ => True, fun (x : List Int × List Int × Unit) => { res := [.val .int (if errCount x.1 x.2.1 = 0 then countV x.1 x.2.1 else 0), .val .int (errCount x.1 x.2.1)] }⟩

theorem errCount_3 {a b : List Int} (he : errPair a b = 0) (h : ¬ (a.length ≤ 3 ∧ b.length ≤ 3 ∧ lsum a ≤ 20)) : errCount a b = 3 := by
  unfold errCount
  rw [if_pos he, if_neg h]
theorem errCount_0 {a b : List Int} (he : errPair a b = 0) (h : a.length ≤ 3 ∧ b.length ≤ 3 ∧ lsum a ≤ 20) : errCount a b = 0 := by
  unfold errCount
  rw [if_pos he, if_pos h]

theorem count_spec : FnSpec Try.prog 28 countCon := by
  refine FnSpec.of_tri' (E := know [(31, pairCon), (47, totalCon)] [] [(48, restRec)] []) (know_ok (all_cons pair_spec (all_cons total_spec all_nil)) all_nil (all_cons rest_spec all_nil)) Try.func28 rfl rfl (by kernel_rfl) ?_
  intro C x hE hnl hfit hpre
  simp only [Try.ntmps28, Try.results28, maxLen, Nat.reduceSub, Nat.reducePow, Nat.reduceAdd, Int.cast_ofNat_Int, push_cast] at hnl hfit hpre ⊢
  obtain ⟨(a : List Int), (b : List Int), _⟩ := x
  dsimp only at hfit hpre ⊢
  by_cases he : errPair a b = 0
  · obtain ⟨oa, ob, hs⟩ := errPair_ok he
    have la := okMass_len oa
    have lb := okMass_len ob
    have h0 : 0 ≤ a.getD 0 0 ∧ a.getD 0 0 ≤ 30 := okMass_mem oa _ (getD_mem 0 (by omega))
    repeat' (first|(refine goK (by assumption) ?_; iterate 4 (try clear hK K))|(refine tri_seqk fun K hK => ?_)|((first|refine tri_region hE rfl ?_|refine tri_ret ?_|((first|refine tri_drawP hE 1 rfl rfl (by kernel_rfl) ?_|refine tri_drawP hE 2 rfl rfl (by kernel_rfl) ?_|refine tri_drawP hE 3 rfl rfl (by kernel_rfl) ?_|refine tri_drawP hE 4 rfl rfl (by kernel_rfl) ?_); simp only [List.length_cons, List.length_nil, Nat.reduceAdd, Nat.reduceSub, List.take_succ_cons, List.take_zero, List.drop_succ_cons, List.drop_zero])); simp +contextual only [hnl, ↓kN, ↓kP, ↓kG, ↓qN, ↓qP, ↓qG, push_cast, Int.reduceEq, Int.reduceLT, Int.reduceLE, Int.reduceNeg, Nat.reduceLT, Nat.reduceLeDiff, Int.reduceToNat, Int.cast_ofNat_Int, Nat.reduceBEq, Nat.reduceMul, Nat.reduceEqDiff, reduceCtorEq, Nat.reduceAdd])|refine tri_block ?_|((first|refine tri_skip ?_|refine tri_exit ?_); simp only [thenQ, blockQ, if_true, if_false, Nat.reduceEqDiff, reduceCtorEq])|(refine tri_cond (by rfl) (fun hb => ?_) (fun hb => ?_) <;> (try simp only [decide_eq_true_eq, decide_eq_false_iff_not, Bool.not_eq_true', Bool.not_eq_false', reduceCtorEq, Bool.true_eq_false, Bool.false_eq_true] at hb) <;> (try omega))|refine tri_unk (by rfl) ?_ ?_|refine And.intro (by first|omega|(unfold InR; omega)|assumption|decide|exact ⟨_, _, rfl⟩) ?_|(refine ⟨fun hc => ?_, fun hc => ?_⟩)|(intro hc; try omega))
    · refine ⟨okMass_sum oa, ?_⟩
      repeat' (first|(refine goK (by assumption) ?_; iterate 4 (try clear hK K))|(refine tri_seqk fun K hK => ?_)|((first|refine tri_region hE rfl ?_|refine tri_ret ?_|((first|refine tri_drawP hE 1 rfl rfl (by kernel_rfl) ?_|refine tri_drawP hE 2 rfl rfl (by kernel_rfl) ?_|refine tri_drawP hE 3 rfl rfl (by kernel_rfl) ?_|refine tri_drawP hE 4 rfl rfl (by kernel_rfl) ?_); simp only [List.length_cons, List.length_nil, Nat.reduceAdd, Nat.reduceSub, List.take_succ_cons, List.take_zero, List.drop_succ_cons, List.drop_zero])); simp +contextual only [hnl, ↓kN, ↓kP, ↓kG, ↓qN, ↓qP, ↓qG, push_cast, Int.reduceEq, Int.reduceLT, Int.reduceLE, Int.reduceNeg, Nat.reduceLT, Nat.reduceLeDiff, Int.reduceToNat, Int.cast_ofNat_Int, Nat.reduceBEq, Nat.reduceMul, Nat.reduceEqDiff, reduceCtorEq, Nat.reduceAdd])|refine tri_block ?_|((first|refine tri_skip ?_|refine tri_exit ?_); simp only [thenQ, blockQ, if_true, if_false, Nat.reduceEqDiff, reduceCtorEq])|(refine tri_cond (by rfl) (fun hb => ?_) (fun hb => ?_) <;> (try simp only [decide_eq_true_eq, decide_eq_false_iff_not, Bool.not_eq_true', Bool.not_eq_false', reduceCtorEq, Bool.true_eq_false, Bool.false_eq_true] at hb) <;> (try omega))|refine tri_unk (by rfl) ?_ ?_|refine And.intro (by first|omega|(unfold InR; omega)|assumption|decide|exact ⟨_, _, rfl⟩) ?_|(refine ⟨fun hc => ?_, fun hc => ?_⟩)|(intro hc; try omega))
      · rw [errCount_3 he (by omega)]; exact ⟨rfl, rfl⟩
      · have ec : errCount a b = 0 := errCount_0 he (by omega)
        refine ⟨⟨by omega, okMass_mem oa, by dsimp only; omega, by dsimp only; omega, okMass_mem ob, by dsimp only; omega, by dsimp only; omega, by dsimp only; omega, by dsimp only; omega, h0.1, h0.2⟩, ?_⟩
        repeat' (first|(refine goK (by assumption) ?_; iterate 4 (try clear hK K))|(refine tri_seqk fun K hK => ?_)|((first|refine tri_region hE rfl ?_|refine tri_ret ?_|((first|refine tri_drawP hE 1 rfl rfl (by kernel_rfl) ?_|refine tri_drawP hE 2 rfl rfl (by kernel_rfl) ?_|refine tri_drawP hE 3 rfl rfl (by kernel_rfl) ?_|refine tri_drawP hE 4 rfl rfl (by kernel_rfl) ?_); simp only [List.length_cons, List.length_nil, Nat.reduceAdd, Nat.reduceSub, List.take_succ_cons, List.take_zero, List.drop_succ_cons, List.drop_zero])); simp +contextual only [hnl, ↓kN, ↓kP, ↓kG, ↓qN, ↓qP, ↓qG, push_cast, Int.reduceEq, Int.reduceLT, Int.reduceLE, Int.reduceNeg, Nat.reduceLT, Nat.reduceLeDiff, Int.reduceToNat, Int.cast_ofNat_Int, Nat.reduceBEq, Nat.reduceMul, Nat.reduceEqDiff, reduceCtorEq, Nat.reduceAdd])|refine tri_block ?_|((first|refine tri_skip ?_|refine tri_exit ?_); simp only [thenQ, blockQ, if_true, if_false, Nat.reduceEqDiff, reduceCtorEq])|(refine tri_cond (by rfl) (fun hb => ?_) (fun hb => ?_) <;> (try simp only [decide_eq_true_eq, decide_eq_false_iff_not, Bool.not_eq_true', Bool.not_eq_false', reduceCtorEq, Bool.true_eq_false, Bool.false_eq_true] at hb) <;> (try omega))|refine tri_unk (by rfl) ?_ ?_|refine And.intro (by first|omega|(unfold InR; omega)|assumption|decide|exact ⟨_, _, rfl⟩) ?_|(refine ⟨fun hc => ?_, fun hc => ?_⟩)|(intro hc; try omega))
        rw [if_pos ec]
        exact ⟨rfl, ec.symm⟩
    · rw [errCount_3 he (by omega)]; exact ⟨rfl, rfl⟩
    · rw [errCount_3 he (by omega)]; exact ⟨rfl, rfl⟩
  · have e1 : errCount a b = errPair a b := by simp [errCount, he]
    rw [e1, if_neg he]
    repeat' (first|(refine goK (by assumption) ?_; iterate 4 (try clear hK K))|(refine tri_seqk fun K hK => ?_)|((first|refine tri_region hE rfl ?_|refine tri_ret ?_|((first|refine tri_drawP hE 1 rfl rfl (by kernel_rfl) ?_|refine tri_drawP hE 2 rfl rfl (by kernel_rfl) ?_|refine tri_drawP hE 3 rfl rfl (by kernel_rfl) ?_|refine tri_drawP hE 4 rfl rfl (by kernel_rfl) ?_); simp only [List.length_cons, List.length_nil, Nat.reduceAdd, Nat.reduceSub, List.take_succ_cons, List.take_zero, List.drop_succ_cons, List.drop_zero])); simp +contextual only [hnl, ↓kN, ↓kP, ↓kG, ↓qN, ↓qP, ↓qG, push_cast, Int.reduceEq, Int.reduceLT, Int.reduceLE, Int.reduceNeg, Nat.reduceLT, Nat.reduceLeDiff, Int.reduceToNat, Int.cast_ofNat_Int, Nat.reduceBEq, Nat.reduceMul, Nat.reduceEqDiff, reduceCtorEq, Nat.reduceAdd])|refine tri_block ?_|((first|refine tri_skip ?_|refine tri_exit ?_); simp only [thenQ, blockQ, if_true, if_false, Nat.reduceEqDiff, reduceCtorEq])|(refine tri_cond (by rfl) (fun hb => ?_) (fun hb => ?_) <;> (try simp only [decide_eq_true_eq, decide_eq_false_iff_not, Bool.not_eq_true', Bool.not_eq_false', reduceCtorEq, Bool.true_eq_false, Bool.false_eq_true] at hb) <;> (try omega))|refine tri_unk (by rfl) ?_ ?_|refine And.intro (by first|omega|(unfold InR; omega)|assumption|decide|exact ⟨_, _, rfl⟩) ?_|(refine ⟨fun hc => ?_, fun hc => ?_⟩)|(intro hc; try omega))
end Go.Proofs.Ytloipnalmkdldaa
