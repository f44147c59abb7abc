/- What a plan costs; what is too long. Conditions: in each contract. -/
import Derived.Test.YtaldpinkkgdklaaGf
import Derived.Test.YtaldpinkkgdklaaPn
namespace Go.Proofs.Ytaldpinkkgdklaa
open Go.RowKit Go.VS Go.OT
set_option linter.unusedSimpArgs false
set_option linter.unusedVariables false

def dotK (r s : List Int) : Nat → Int
  | 0 => 0
  | k + 1 => dotK r s k + r.getD k 0 * s.getD k 0
def spendK (c t : List (List Int)) : Nat → Int
  | 0 => 0
  | k + 1 => spendK c t k + dotK (c.getD k []) (t.getD k []) (t.getD k []).length
/-- The sum of cost times number. -/
def spend (c t : List (List Int)) : Int := spendK c t t.length

/-- Tables of one shape: costs, and numbers that can be moved. -/
def Fit (c t : List (List Int)) : Prop := ∃ R C, (R ≤ 6 ∧ C ≤ 6) ∧ Tb R C 0 1000000 c ∧ Tb R C 0 200 t

theorem mul_bound {x y : Int} (h1 : 0 ≤ x ∧ x ≤ 1000000) (h2 : 0 ≤ y ∧ y ≤ 200) : 0 ≤ x * y ∧ x * y ≤ 200000000 :=
  ⟨Int.mul_nonneg h1.1 h2.1, by have := Int.mul_le_mul h1.2 h2.2 h2.1 (by omega : (0:Int) ≤ 1000000); omega⟩

theorem Fit.rows {c t : List (List Int)} (h : Fit c t) : t.length = c.length ∧ t.length ≤ 6 := by
  obtain ⟨R, C, h1, h2, h3⟩ := h
  rw [h2.rows, h3.rows]; omega
theorem Fit.cols {c t : List (List Int)} (h : Fit c t) {i : Nat} (hi : i < t.length) : (t.getD i []).length = (c.getD i []).length ∧ (t.getD i []).length ≤ 6 := by
  obtain ⟨R, C, h1, h2, h3⟩ := h
  rw [h3.rows] at hi
  rw [h2.cols i hi, h3.cols i hi]; omega

theorem Fit.term {c t : List (List Int)} (h : Fit c t) {i j : Nat} (hi : i < t.length) (hj : j < (t.getD i []).length) : 0 ≤ (c.getD i []).getD j 0 * (t.getD i []).getD j 0 ∧ (c.getD i []).getD j 0 * (t.getD i []).getD j 0 ≤ 200000000 := by
  obtain ⟨R, C, h1, h2, h3⟩ := h
  rw [h3.rows] at hi
  rw [h3.cols i hi] at hj
  exact mul_bound (h2.at' i j hi hj) (h3.at' i j hi hj)

theorem Fit.dot {c t : List (List Int)} (h : Fit c t) {i : Nat} (hi : i < t.length) : ∀ j, j ≤ (t.getD i []).length → 0 ≤ dotK (c.getD i []) (t.getD i []) j ∧ dotK (c.getD i []) (t.getD i []) j ≤ 200000000 * j
  | 0, _ => by simp [dotK]
  | j + 1, hj => by
    have h1 := h.dot hi j (by omega)
    have h2 := h.term hi (j := j) (by omega)
    simp only [dotK]
    omega

theorem Fit.spend {c t : List (List Int)} (h : Fit c t) : ∀ k, k ≤ t.length → 0 ≤ spendK c t k ∧ spendK c t k ≤ 1200000000 * k
  | 0, _ => by simp [spendK]
  | k + 1, hk => by
    have h1 := h.spend k (by omega)
    have h2 := h.dot (i := k) (by omega) _ (Nat.le_refl _)
    have h3 := h.cols (i := k) (by omega)
    simp only [spendK]
    omega

@[push_cast] def spendCon : Con := ⟨[.dat (.sl (.sl .int)), .dat (.sl (.sl .int))], fun (x : List (List Int) × List (List Int) × Unit) => Fit x.1 x.2.1, fun (x : List (List Int) × List (List Int) × Unit) => { res := [.val .int (spend x.1 x.2.1)] }⟩

theorem scost_spec : FnSpec Try.prog 58 spendCon := by
  refine FnSpec.of_tri' (E := know [] [] [] []) (know_ok all_nil all_nil all_nil) Try.func58 rfl rfl (by kernel_rfl) ?_
  intro C x hE hnl hfit hpre
  simp only [Try.ntmps58, Try.results58, maxLen, Nat.reduceSub, Nat.reducePow, Nat.reduceAdd, Int.cast_ofNat_Int, push_cast] at hnl hfit hpre ⊢
  obtain ⟨(c : List (List Int)), (t : List (List Int)), _⟩ := x
  dsimp only at hfit hpre ⊢
  have hlc := hpre.rows
  repeat' (first | (refine goK (by assumption) ?_; iterate 4 (try clear hK K)) | (refine tri_seqk fun K hK => ?_) | ((first | (refine tri_region hE rfl ?_) | ((first | (refine tri_drawP hE 1 rfl rfl (by kernel_rfl) ?_) | (refine tri_drawP hE 2 rfl rfl (by kernel_rfl) ?_) | (refine tri_drawP hE 3 rfl rfl (by kernel_rfl) ?_) | (refine tri_drawP hE 4 rfl rfl (by kernel_rfl) ?_)); simp only [List.length_cons, List.length_nil, Nat.reduceAdd, Nat.reduceSub, List.take_succ_cons, List.take_zero, List.drop_succ_cons, List.drop_zero])); simp +contextual only [hnl, ↓runK_nil, ↓runK_plain, ↓runK_guard, ↓runQ_nil, ↓runQ_plain, ↓runQ_guard, push_cast, exists_eq_left', Int.reduceEq, Int.reduceLT, Int.reduceLE, Int.reduceNeg, Nat.reduceLT, Nat.reduceLeDiff, Int.reduceToNat, Int.cast_ofNat_Int, Nat.reduceBEq, Nat.reduceMul, Nat.reduceEqDiff, reduceCtorEq, Nat.reduceAdd]) | (refine tri_block ?_) | (refine tri_skip ?_; simp only [thenQ, blockQ, if_true, if_false, Nat.reduceEqDiff, reduceCtorEq]) | (refine tri_exit ?_; simp only [thenQ, blockQ, if_true, if_false, Nat.reduceEqDiff, reduceCtorEq]) | (refine tri_cond (by simp only [push_cast, exists_eq_left', Int.reduceEq, Int.reduceLT, Int.reduceLE, Int.reduceNeg, Nat.reduceLT, Nat.reduceLeDiff, Int.reduceToNat, Int.cast_ofNat_Int, Nat.reduceBEq, Nat.reduceMul, Nat.reduceEqDiff, reduceCtorEq, Nat.reduceAdd]; rfl) (fun hb => ?_) (fun hb => ?_) <;> (try simp only [decide_eq_true_eq, decide_eq_false_iff_not, Bool.not_eq_true', Bool.not_eq_false', reduceCtorEq, Bool.true_eq_false, Bool.false_eq_true] at hb) <;> (try omega)) | (refine tri_unk (by simp only [push_cast, exists_eq_left', Int.reduceEq, Int.reduceLT, Int.reduceLE, Int.reduceNeg, Nat.reduceLT, Nat.reduceLeDiff, Int.reduceToNat, Int.cast_ofNat_Int, Nat.reduceBEq, Nat.reduceMul, Nat.reduceEqDiff, reduceCtorEq, Nat.reduceAdd]) ?_ ?_) | (refine tri_ret ?_; simp only [hnl, push_cast, exists_eq_left', Int.reduceEq, Int.reduceLT, Int.reduceLE, Int.reduceNeg, Nat.reduceLT, Nat.reduceLeDiff, Int.reduceToNat, Int.cast_ofNat_Int, Nat.reduceBEq, Nat.reduceMul, Nat.reduceEqDiff, reduceCtorEq, Nat.reduceAdd]) | (refine And.intro (by first | omega | (unfold InR; omega) | assumption | decide | exact ⟨_, _, rfl⟩) ?_) | (refine ⟨fun hc => ?_, fun hc => ?_⟩) | (intro hc; try omega))
  refine tri_loopI (fun k : Nat => AS.of [(0, .one (.val (.sl (.sl .int)) c)), (5, .I (spendK c t k)), (10, .one (.val (.sl (.sl .int)) t)), (11, .I t.length), (12, .I k)] [] []) (fun k => k ≤ t.length) (fun k => t.length - k) 0 (Nat.zero_le _) ?_ ?_
  · refine weak_of ?_ ?_ ?_ <;> simp only [push_cast, exists_eq_left', Int.reduceEq, Int.reduceLT, Int.reduceLE, Int.reduceNeg, Nat.reduceLT, Nat.reduceLeDiff, Int.reduceToNat, Int.cast_ofNat_Int, Nat.reduceBEq, Nat.reduceMul, Nat.reduceEqDiff, reduceCtorEq, Nat.reduceAdd]
    rfl
  intro k hk K' hL
  repeat' (first | (refine goK (by assumption) ?_; iterate 4 (try clear hK K)) | (refine tri_seqk fun K hK => ?_) | ((first | (refine tri_region hE rfl ?_) | ((first | (refine tri_drawP hE 1 rfl rfl (by kernel_rfl) ?_) | (refine tri_drawP hE 2 rfl rfl (by kernel_rfl) ?_) | (refine tri_drawP hE 3 rfl rfl (by kernel_rfl) ?_) | (refine tri_drawP hE 4 rfl rfl (by kernel_rfl) ?_)); simp only [List.length_cons, List.length_nil, Nat.reduceAdd, Nat.reduceSub, List.take_succ_cons, List.take_zero, List.drop_succ_cons, List.drop_zero])); simp +contextual only [hnl, ↓runK_nil, ↓runK_plain, ↓runK_guard, ↓runQ_nil, ↓runQ_plain, ↓runQ_guard, push_cast, exists_eq_left', Int.reduceEq, Int.reduceLT, Int.reduceLE, Int.reduceNeg, Nat.reduceLT, Nat.reduceLeDiff, Int.reduceToNat, Int.cast_ofNat_Int, Nat.reduceBEq, Nat.reduceMul, Nat.reduceEqDiff, reduceCtorEq, Nat.reduceAdd]) | (refine tri_block ?_) | (refine tri_skip ?_; simp only [thenQ, blockQ, if_true, if_false, Nat.reduceEqDiff, reduceCtorEq]) | (refine tri_exit ?_; simp only [thenQ, blockQ, if_true, if_false, Nat.reduceEqDiff, reduceCtorEq]) | (refine tri_cond (by simp only [push_cast, exists_eq_left', Int.reduceEq, Int.reduceLT, Int.reduceLE, Int.reduceNeg, Nat.reduceLT, Nat.reduceLeDiff, Int.reduceToNat, Int.cast_ofNat_Int, Nat.reduceBEq, Nat.reduceMul, Nat.reduceEqDiff, reduceCtorEq, Nat.reduceAdd]; rfl) (fun hb => ?_) (fun hb => ?_) <;> (try simp only [decide_eq_true_eq, decide_eq_false_iff_not, Bool.not_eq_true', Bool.not_eq_false', reduceCtorEq, Bool.true_eq_false, Bool.false_eq_true] at hb) <;> (try omega)) | (refine tri_unk (by simp only [push_cast, exists_eq_left', Int.reduceEq, Int.reduceLT, Int.reduceLE, Int.reduceNeg, Nat.reduceLT, Nat.reduceLeDiff, Int.reduceToNat, Int.cast_ofNat_Int, Nat.reduceBEq, Nat.reduceMul, Nat.reduceEqDiff, reduceCtorEq, Nat.reduceAdd]) ?_ ?_) | (refine tri_ret ?_; simp only [hnl, push_cast, exists_eq_left', Int.reduceEq, Int.reduceLT, Int.reduceLE, Int.reduceNeg, Nat.reduceLT, Nat.reduceLeDiff, Int.reduceToNat, Int.cast_ofNat_Int, Nat.reduceBEq, Nat.reduceMul, Nat.reduceEqDiff, reduceCtorEq, Nat.reduceAdd]) | (refine And.intro (by first | omega | (unfold InR; omega) | assumption | decide | exact ⟨_, _, rfl⟩) ?_) | (refine ⟨fun hc => ?_, fun hc => ?_⟩) | (intro hc; try omega))
  · have hk' : k < t.length := by omega
    have h3 := hpre.cols hk'
    refine tri_loopI (fun j : Nat => AS.of [(0, .one (.val (.sl (.sl .int)) c)), (5, .I (spendK c t k + dotK (c.getD k []) (t.getD k []) j)), (6, .I k), (10, .one (.val (.sl (.sl .int)) t)), (11, .I t.length), (12, .I k), (17, .one (.val (.sl .int) (t.getD k []))), (18, .I (t.getD k []).length), (19, .I j)] [] []) (fun j => j ≤ (t.getD k []).length) (fun j => (t.getD k []).length - j) 0 (Nat.zero_le _) ?_ ?_
    · refine weak_of ?_ ?_ ?_ <;> simp only [push_cast, exists_eq_left', Int.reduceEq, Int.reduceLT, Int.reduceLE, Int.reduceNeg, Nat.reduceLT, Nat.reduceLeDiff, Int.reduceToNat, Int.cast_ofNat_Int, Nat.reduceBEq, Nat.reduceMul, Nat.reduceEqDiff, reduceCtorEq, Nat.reduceAdd]
      simp [dotK]
    intro j hj K2 hL2
    have h4 := hpre.spend k (by omega)
    have h5 := hpre.dot hk' j (by omega)
    have h6 : j < (t.getD k []).length → _ := fun h => hpre.term hk' (j := j) h
    repeat' (first | (refine goK (by assumption) ?_; iterate 4 (try clear hK K)) | (refine tri_seqk fun K hK => ?_) | ((first | (refine tri_region hE rfl ?_) | ((first | (refine tri_drawP hE 1 rfl rfl (by kernel_rfl) ?_) | (refine tri_drawP hE 2 rfl rfl (by kernel_rfl) ?_) | (refine tri_drawP hE 3 rfl rfl (by kernel_rfl) ?_) | (refine tri_drawP hE 4 rfl rfl (by kernel_rfl) ?_)); simp only [List.length_cons, List.length_nil, Nat.reduceAdd, Nat.reduceSub, List.take_succ_cons, List.take_zero, List.drop_succ_cons, List.drop_zero])); simp +contextual only [hnl, ↓runK_nil, ↓runK_plain, ↓runK_guard, ↓runQ_nil, ↓runQ_plain, ↓runQ_guard, push_cast, exists_eq_left', Int.reduceEq, Int.reduceLT, Int.reduceLE, Int.reduceNeg, Nat.reduceLT, Nat.reduceLeDiff, Int.reduceToNat, Int.cast_ofNat_Int, Nat.reduceBEq, Nat.reduceMul, Nat.reduceEqDiff, reduceCtorEq, Nat.reduceAdd]) | (refine tri_block ?_) | (refine tri_skip ?_; simp only [thenQ, blockQ, if_true, if_false, Nat.reduceEqDiff, reduceCtorEq]) | (refine tri_exit ?_; simp only [thenQ, blockQ, if_true, if_false, Nat.reduceEqDiff, reduceCtorEq]) | (refine tri_cond (by simp only [push_cast, exists_eq_left', Int.reduceEq, Int.reduceLT, Int.reduceLE, Int.reduceNeg, Nat.reduceLT, Nat.reduceLeDiff, Int.reduceToNat, Int.cast_ofNat_Int, Nat.reduceBEq, Nat.reduceMul, Nat.reduceEqDiff, reduceCtorEq, Nat.reduceAdd]; rfl) (fun hb => ?_) (fun hb => ?_) <;> (try simp only [decide_eq_true_eq, decide_eq_false_iff_not, Bool.not_eq_true', Bool.not_eq_false', reduceCtorEq, Bool.true_eq_false, Bool.false_eq_true] at hb) <;> (try omega)) | (refine tri_unk (by simp only [push_cast, exists_eq_left', Int.reduceEq, Int.reduceLT, Int.reduceLE, Int.reduceNeg, Nat.reduceLT, Nat.reduceLeDiff, Int.reduceToNat, Int.cast_ofNat_Int, Nat.reduceBEq, Nat.reduceMul, Nat.reduceEqDiff, reduceCtorEq, Nat.reduceAdd]) ?_ ?_) | (refine tri_ret ?_; simp only [hnl, push_cast, exists_eq_left', Int.reduceEq, Int.reduceLT, Int.reduceLE, Int.reduceNeg, Nat.reduceLT, Nat.reduceLeDiff, Int.reduceToNat, Int.cast_ofNat_Int, Nat.reduceBEq, Nat.reduceMul, Nat.reduceEqDiff, reduceCtorEq, Nat.reduceAdd]) | (refine And.intro (by first | omega | (unfold InR; omega) | assumption | decide | exact ⟨_, _, rfl⟩) ?_) | (refine ⟨fun hc => ?_, fun hc => ?_⟩) | (intro hc; try omega))
    · have h7 := h6 (by omega)
      rw [Int.mul_comm] at h7
      refine ⟨by unfold InR; omega, by unfold InR; omega, ?_⟩
      repeat' (first | (refine goK (by assumption) ?_; iterate 4 (try clear hK K)) | (refine tri_seqk fun K hK => ?_) | ((first | (refine tri_region hE rfl ?_) | ((first | (refine tri_drawP hE 1 rfl rfl (by kernel_rfl) ?_) | (refine tri_drawP hE 2 rfl rfl (by kernel_rfl) ?_) | (refine tri_drawP hE 3 rfl rfl (by kernel_rfl) ?_) | (refine tri_drawP hE 4 rfl rfl (by kernel_rfl) ?_)); simp only [List.length_cons, List.length_nil, Nat.reduceAdd, Nat.reduceSub, List.take_succ_cons, List.take_zero, List.drop_succ_cons, List.drop_zero])); simp +contextual only [hnl, ↓runK_nil, ↓runK_plain, ↓runK_guard, ↓runQ_nil, ↓runQ_plain, ↓runQ_guard, push_cast, exists_eq_left', Int.reduceEq, Int.reduceLT, Int.reduceLE, Int.reduceNeg, Nat.reduceLT, Nat.reduceLeDiff, Int.reduceToNat, Int.cast_ofNat_Int, Nat.reduceBEq, Nat.reduceMul, Nat.reduceEqDiff, reduceCtorEq, Nat.reduceAdd]) | (refine tri_block ?_) | (refine tri_skip ?_; simp only [thenQ, blockQ, if_true, if_false, Nat.reduceEqDiff, reduceCtorEq]) | (refine tri_exit ?_; simp only [thenQ, blockQ, if_true, if_false, Nat.reduceEqDiff, reduceCtorEq]) | (refine tri_cond (by simp only [push_cast, exists_eq_left', Int.reduceEq, Int.reduceLT, Int.reduceLE, Int.reduceNeg, Nat.reduceLT, Nat.reduceLeDiff, Int.reduceToNat, Int.cast_ofNat_Int, Nat.reduceBEq, Nat.reduceMul, Nat.reduceEqDiff, reduceCtorEq, Nat.reduceAdd]; rfl) (fun hb => ?_) (fun hb => ?_) <;> (try simp only [decide_eq_true_eq, decide_eq_false_iff_not, Bool.not_eq_true', Bool.not_eq_false', reduceCtorEq, Bool.true_eq_false, Bool.false_eq_true] at hb) <;> (try omega)) | (refine tri_unk (by simp only [push_cast, exists_eq_left', Int.reduceEq, Int.reduceLT, Int.reduceLE, Int.reduceNeg, Nat.reduceLT, Nat.reduceLeDiff, Int.reduceToNat, Int.cast_ofNat_Int, Nat.reduceBEq, Nat.reduceMul, Nat.reduceEqDiff, reduceCtorEq, Nat.reduceAdd]) ?_ ?_) | (refine tri_ret ?_; simp only [hnl, push_cast, exists_eq_left', Int.reduceEq, Int.reduceLT, Int.reduceLE, Int.reduceNeg, Nat.reduceLT, Nat.reduceLeDiff, Int.reduceToNat, Int.cast_ofNat_Int, Nat.reduceBEq, Nat.reduceMul, Nat.reduceEqDiff, reduceCtorEq, Nat.reduceAdd]) | (refine And.intro (by first | omega | (unfold InR; omega) | assumption | decide | exact ⟨_, _, rfl⟩) ?_) | (refine ⟨fun hc => ?_, fun hc => ?_⟩) | (intro hc; try omega))
      refine hL2 _ (j + 1) (by omega) (by omega) ?_
      refine weak_of ?_ ?_ ?_ <;> simp only [push_cast, exists_eq_left', Int.reduceEq, Int.reduceLT, Int.reduceLE, Int.reduceNeg, Nat.reduceLT, Nat.reduceLeDiff, Int.reduceToNat, Int.cast_ofNat_Int, Nat.reduceBEq, Nat.reduceMul, Nat.reduceEqDiff, reduceCtorEq, Nat.reduceAdd]
      rw [dotK, Int.mul_comm, Int.add_assoc]
    · obtain rfl : j = (t.getD k []).length := by omega
      refine hL _ (k + 1) (by omega) (by omega) ?_
      refine weak_of ?_ ?_ ?_ <;> simp only [push_cast, exists_eq_left', Int.reduceEq, Int.reduceLT, Int.reduceLE, Int.reduceNeg, Nat.reduceLT, Nat.reduceLeDiff, Int.reduceToNat, Int.cast_ofNat_Int, Nat.reduceBEq, Nat.reduceMul, Nat.reduceEqDiff, reduceCtorEq, Nat.reduceAdd]
      rfl
  · obtain rfl : k = t.length := by omega
    rfl

theorem spent_spec : FnSpec Try.prog 60 spendCon := by
  refine FnSpec.of_tri' (E := know [] [] [] []) (know_ok all_nil all_nil all_nil) Try.func60 rfl rfl (by kernel_rfl) ?_
  intro C x hE hnl hfit hpre
  simp only [Try.ntmps60, Try.results60, maxLen, Nat.reduceSub, Nat.reducePow, Nat.reduceAdd, Int.cast_ofNat_Int, push_cast] at hnl hfit hpre ⊢
  obtain ⟨(c : List (List Int)), (t : List (List Int)), _⟩ := x
  dsimp only at hfit hpre ⊢
  have hlc := hpre.rows
  repeat' (first | (refine goK (by assumption) ?_; iterate 4 (try clear hK K)) | (refine tri_seqk fun K hK => ?_) | ((first | (refine tri_region hE rfl ?_) | ((first | (refine tri_drawP hE 1 rfl rfl (by kernel_rfl) ?_) | (refine tri_drawP hE 2 rfl rfl (by kernel_rfl) ?_) | (refine tri_drawP hE 3 rfl rfl (by kernel_rfl) ?_) | (refine tri_drawP hE 4 rfl rfl (by kernel_rfl) ?_)); simp only [List.length_cons, List.length_nil, Nat.reduceAdd, Nat.reduceSub, List.take_succ_cons, List.take_zero, List.drop_succ_cons, List.drop_zero])); simp +contextual only [hnl, ↓runK_nil, ↓runK_plain, ↓runK_guard, ↓runQ_nil, ↓runQ_plain, ↓runQ_guard, push_cast, exists_eq_left', Int.reduceEq, Int.reduceLT, Int.reduceLE, Int.reduceNeg, Nat.reduceLT, Nat.reduceLeDiff, Int.reduceToNat, Int.cast_ofNat_Int, Nat.reduceBEq, Nat.reduceMul, Nat.reduceEqDiff, reduceCtorEq, Nat.reduceAdd]) | (refine tri_block ?_) | (refine tri_skip ?_; simp only [thenQ, blockQ, if_true, if_false, Nat.reduceEqDiff, reduceCtorEq]) | (refine tri_exit ?_; simp only [thenQ, blockQ, if_true, if_false, Nat.reduceEqDiff, reduceCtorEq]) | (refine tri_cond (by simp only [push_cast, exists_eq_left', Int.reduceEq, Int.reduceLT, Int.reduceLE, Int.reduceNeg, Nat.reduceLT, Nat.reduceLeDiff, Int.reduceToNat, Int.cast_ofNat_Int, Nat.reduceBEq, Nat.reduceMul, Nat.reduceEqDiff, reduceCtorEq, Nat.reduceAdd]; rfl) (fun hb => ?_) (fun hb => ?_) <;> (try simp only [decide_eq_true_eq, decide_eq_false_iff_not, Bool.not_eq_true', Bool.not_eq_false', reduceCtorEq, Bool.true_eq_false, Bool.false_eq_true] at hb) <;> (try omega)) | (refine tri_unk (by simp only [push_cast, exists_eq_left', Int.reduceEq, Int.reduceLT, Int.reduceLE, Int.reduceNeg, Nat.reduceLT, Nat.reduceLeDiff, Int.reduceToNat, Int.cast_ofNat_Int, Nat.reduceBEq, Nat.reduceMul, Nat.reduceEqDiff, reduceCtorEq, Nat.reduceAdd]) ?_ ?_) | (refine tri_ret ?_; simp only [hnl, push_cast, exists_eq_left', Int.reduceEq, Int.reduceLT, Int.reduceLE, Int.reduceNeg, Nat.reduceLT, Nat.reduceLeDiff, Int.reduceToNat, Int.cast_ofNat_Int, Nat.reduceBEq, Nat.reduceMul, Nat.reduceEqDiff, reduceCtorEq, Nat.reduceAdd]) | (refine And.intro (by first | omega | (unfold InR; omega) | assumption | decide | exact ⟨_, _, rfl⟩) ?_) | (refine ⟨fun hc => ?_, fun hc => ?_⟩) | (intro hc; try omega))
  refine tri_loopI (fun k : Nat => AS.of [(0, .one (.val (.sl (.sl .int)) c)), (1, .one (.val (.sl (.sl .int)) t)), (5, .I (spendK c t k)), (6, .I k)] [] []) (fun k => k ≤ t.length) (fun k => t.length - k) 0 (Nat.zero_le _) ?_ ?_
  · refine weak_of ?_ ?_ ?_ <;> simp only [push_cast, exists_eq_left', Int.reduceEq, Int.reduceLT, Int.reduceLE, Int.reduceNeg, Nat.reduceLT, Nat.reduceLeDiff, Int.reduceToNat, Int.cast_ofNat_Int, Nat.reduceBEq, Nat.reduceMul, Nat.reduceEqDiff, reduceCtorEq, Nat.reduceAdd]
    rfl
  intro k hk K' hL
  repeat' (first | (refine goK (by assumption) ?_; iterate 4 (try clear hK K)) | (refine tri_seqk fun K hK => ?_) | ((first | (refine tri_region hE rfl ?_) | ((first | (refine tri_drawP hE 1 rfl rfl (by kernel_rfl) ?_) | (refine tri_drawP hE 2 rfl rfl (by kernel_rfl) ?_) | (refine tri_drawP hE 3 rfl rfl (by kernel_rfl) ?_) | (refine tri_drawP hE 4 rfl rfl (by kernel_rfl) ?_)); simp only [List.length_cons, List.length_nil, Nat.reduceAdd, Nat.reduceSub, List.take_succ_cons, List.take_zero, List.drop_succ_cons, List.drop_zero])); simp +contextual only [hnl, ↓runK_nil, ↓runK_plain, ↓runK_guard, ↓runQ_nil, ↓runQ_plain, ↓runQ_guard, push_cast, exists_eq_left', Int.reduceEq, Int.reduceLT, Int.reduceLE, Int.reduceNeg, Nat.reduceLT, Nat.reduceLeDiff, Int.reduceToNat, Int.cast_ofNat_Int, Nat.reduceBEq, Nat.reduceMul, Nat.reduceEqDiff, reduceCtorEq, Nat.reduceAdd]) | (refine tri_block ?_) | (refine tri_skip ?_; simp only [thenQ, blockQ, if_true, if_false, Nat.reduceEqDiff, reduceCtorEq]) | (refine tri_exit ?_; simp only [thenQ, blockQ, if_true, if_false, Nat.reduceEqDiff, reduceCtorEq]) | (refine tri_cond (by simp only [push_cast, exists_eq_left', Int.reduceEq, Int.reduceLT, Int.reduceLE, Int.reduceNeg, Nat.reduceLT, Nat.reduceLeDiff, Int.reduceToNat, Int.cast_ofNat_Int, Nat.reduceBEq, Nat.reduceMul, Nat.reduceEqDiff, reduceCtorEq, Nat.reduceAdd]; rfl) (fun hb => ?_) (fun hb => ?_) <;> (try simp only [decide_eq_true_eq, decide_eq_false_iff_not, Bool.not_eq_true', Bool.not_eq_false', reduceCtorEq, Bool.true_eq_false, Bool.false_eq_true] at hb) <;> (try omega)) | (refine tri_unk (by simp only [push_cast, exists_eq_left', Int.reduceEq, Int.reduceLT, Int.reduceLE, Int.reduceNeg, Nat.reduceLT, Nat.reduceLeDiff, Int.reduceToNat, Int.cast_ofNat_Int, Nat.reduceBEq, Nat.reduceMul, Nat.reduceEqDiff, reduceCtorEq, Nat.reduceAdd]) ?_ ?_) | (refine tri_ret ?_; simp only [hnl, push_cast, exists_eq_left', Int.reduceEq, Int.reduceLT, Int.reduceLE, Int.reduceNeg, Nat.reduceLT, Nat.reduceLeDiff, Int.reduceToNat, Int.cast_ofNat_Int, Nat.reduceBEq, Nat.reduceMul, Nat.reduceEqDiff, reduceCtorEq, Nat.reduceAdd]) | (refine And.intro (by first | omega | (unfold InR; omega) | assumption | decide | exact ⟨_, _, rfl⟩) ?_) | (refine ⟨fun hc => ?_, fun hc => ?_⟩) | (intro hc; try omega))
  · have hk' : k < t.length := by omega
    have h3 := hpre.cols hk'
    refine tri_loopI (fun j : Nat => AS.of [(0, .one (.val (.sl (.sl .int)) c)), (1, .one (.val (.sl (.sl .int)) t)), (5, .I (spendK c t k + dotK (c.getD k []) (t.getD k []) j)), (6, .I k), (7, .I j)] [] []) (fun j => j ≤ (t.getD k []).length) (fun j => (t.getD k []).length - j) 0 (Nat.zero_le _) ?_ ?_
    · refine weak_of ?_ ?_ ?_ <;> simp only [push_cast, exists_eq_left', Int.reduceEq, Int.reduceLT, Int.reduceLE, Int.reduceNeg, Nat.reduceLT, Nat.reduceLeDiff, Int.reduceToNat, Int.cast_ofNat_Int, Nat.reduceBEq, Nat.reduceMul, Nat.reduceEqDiff, reduceCtorEq, Nat.reduceAdd]
      simp [dotK]
    intro j hj K2 hL2
    have h4 := hpre.spend k (by omega)
    have h5 := hpre.dot hk' j (by omega)
    have h6 : j < (t.getD k []).length → _ := fun h => hpre.term hk' (j := j) h
    repeat' (first | (refine goK (by assumption) ?_; iterate 4 (try clear hK K)) | (refine tri_seqk fun K hK => ?_) | ((first | (refine tri_region hE rfl ?_) | ((first | (refine tri_drawP hE 1 rfl rfl (by kernel_rfl) ?_) | (refine tri_drawP hE 2 rfl rfl (by kernel_rfl) ?_) | (refine tri_drawP hE 3 rfl rfl (by kernel_rfl) ?_) | (refine tri_drawP hE 4 rfl rfl (by kernel_rfl) ?_)); simp only [List.length_cons, List.length_nil, Nat.reduceAdd, Nat.reduceSub, List.take_succ_cons, List.take_zero, List.drop_succ_cons, List.drop_zero])); simp +contextual only [hnl, ↓runK_nil, ↓runK_plain, ↓runK_guard, ↓runQ_nil, ↓runQ_plain, ↓runQ_guard, push_cast, exists_eq_left', Int.reduceEq, Int.reduceLT, Int.reduceLE, Int.reduceNeg, Nat.reduceLT, Nat.reduceLeDiff, Int.reduceToNat, Int.cast_ofNat_Int, Nat.reduceBEq, Nat.reduceMul, Nat.reduceEqDiff, reduceCtorEq, Nat.reduceAdd]) | (refine tri_block ?_) | (refine tri_skip ?_; simp only [thenQ, blockQ, if_true, if_false, Nat.reduceEqDiff, reduceCtorEq]) | (refine tri_exit ?_; simp only [thenQ, blockQ, if_true, if_false, Nat.reduceEqDiff, reduceCtorEq]) | (refine tri_cond (by simp only [push_cast, exists_eq_left', Int.reduceEq, Int.reduceLT, Int.reduceLE, Int.reduceNeg, Nat.reduceLT, Nat.reduceLeDiff, Int.reduceToNat, Int.cast_ofNat_Int, Nat.reduceBEq, Nat.reduceMul, Nat.reduceEqDiff, reduceCtorEq, Nat.reduceAdd]; rfl) (fun hb => ?_) (fun hb => ?_) <;> (try simp only [decide_eq_true_eq, decide_eq_false_iff_not, Bool.not_eq_true', Bool.not_eq_false', reduceCtorEq, Bool.true_eq_false, Bool.false_eq_true] at hb) <;> (try omega)) | (refine tri_unk (by simp only [push_cast, exists_eq_left', Int.reduceEq, Int.reduceLT, Int.reduceLE, Int.reduceNeg, Nat.reduceLT, Nat.reduceLeDiff, Int.reduceToNat, Int.cast_ofNat_Int, Nat.reduceBEq, Nat.reduceMul, Nat.reduceEqDiff, reduceCtorEq, Nat.reduceAdd]) ?_ ?_) | (refine tri_ret ?_; simp only [hnl, push_cast, exists_eq_left', Int.reduceEq, Int.reduceLT, Int.reduceLE, Int.reduceNeg, Nat.reduceLT, Nat.reduceLeDiff, Int.reduceToNat, Int.cast_ofNat_Int, Nat.reduceBEq, Nat.reduceMul, Nat.reduceEqDiff, reduceCtorEq, Nat.reduceAdd]) | (refine And.intro (by first | omega | (unfold InR; omega) | assumption | decide | exact ⟨_, _, rfl⟩) ?_) | (refine ⟨fun hc => ?_, fun hc => ?_⟩) | (intro hc; try omega))
    · refine hL2 _ (j + 1) (by omega) (by omega) ?_
      refine weak_of ?_ ?_ ?_ <;> simp only [push_cast, exists_eq_left', Int.reduceEq, Int.reduceLT, Int.reduceLE, Int.reduceNeg, Nat.reduceLT, Nat.reduceLeDiff, Int.reduceToNat, Int.cast_ofNat_Int, Nat.reduceBEq, Nat.reduceMul, Nat.reduceEqDiff, reduceCtorEq, Nat.reduceAdd]
      rw [dotK, Int.add_assoc]
    · obtain rfl : j = (t.getD k []).length := by omega
      refine hL _ (k + 1) (by omega) (by omega) ?_
      refine weak_of ?_ ?_ ?_ <;> simp only [push_cast, exists_eq_left', Int.reduceEq, Int.reduceLT, Int.reduceLE, Int.reduceNeg, Nat.reduceLT, Nat.reduceLeDiff, Int.reduceToNat, Int.cast_ofNat_Int, Nat.reduceBEq, Nat.reduceMul, Nat.reduceEqDiff, reduceCtorEq, Nat.reduceAdd]
      rfl
  · obtain rfl : k = t.length := by omega
    rfl

theorem InTab.tb {lo hi lo' hi' : Int} {p : List (List Int)} (h : InTab lo hi p) (h1 : lo' ≤ lo) (h2 : hi ≤ hi') : Tb p.length (wid p) lo' hi' p := ⟨rfl, fun i hi => h.len hi, fun i j hi hj => by have := h.at hi hj; omega⟩
theorem fit_of {c t : List (List Int)} (hc : InTab 0 99 c) (ht : InTab 0 150 t) (h1 : t.length = c.length) (h2 : wid t = wid c) : Fit c t := by
  have h3 := ht.tb (lo' := 0) (hi' := 200) (by omega) (by omega)
  rw [h1, h2] at h3
  exact ⟨_, _, ⟨by have := hc.rows; omega, by have := hc.cols; omega⟩, hc.tb (by omega) (by omega), h3⟩
theorem InPlan.tab {p : List (List Int)} (h : InPlan p) : InTab 0 150 p := inTab_of h.rows h.cols fun i hi => ⟨h.row hi, fun j hj => h.at hi hj⟩

def errSpend (c t : List (List Int)) : Int := if InTab 0 99 c ∧ okPlan t = true ∧ t.length = c.length ∧ wid t = wid c then 0 else 1
def spendV (c t : List (List Int)) : Int := if errSpend c t = 0 then spend c t else 0
section
variable {c t : List (List Int)}
theorem errSpend_0 (h1 : errCost c = 0) (h2 : errPlan t = 0) (h3 : t.length = c.length) (h4 : (t.getD 0 []).length = (c.getD 0 []).length) : errSpend c t = 0 ∧ Fit c t :=
  ⟨if_pos ⟨errCost_in h1, okPlan_iff.2 (errPlan_in h2), h3, h4⟩, fit_of (errCost_in h1) (errPlan_in h2).tab h3 h4⟩
theorem errSpend_1 (h : ¬ (t.length = c.length ∧ (t.getD 0 []).length = (c.getD 0 []).length)) : errSpend c t = 1 := if_neg fun h2 => h ⟨h2.2.2.1, h2.2.2.2⟩
theorem errSpend_c (h : ¬ errCost c = 0) : errCost c = errSpend c t := by
  rw [(errCost_01 c).resolve_left h]
  exact (if_neg fun h2 => h (errCost_0 h2.1)).symm
theorem errSpend_t (h : ¬ errPlan t = 0) : errPlan t = errSpend c t := by
  rw [(errPlan_01 t).resolve_left h]
  exact (if_neg fun h2 => h (errPlan_0 (okPlan_iff.1 h2.2.1))).symm
theorem spendV_no (h : ¬ errSpend c t = 0) : spendV c t = 0 := if_neg h
theorem spendV_ok (h : errSpend c t = 0) : spendV c t = spend c t := if_pos h
theorem orV_spend (h : ¬ orV [errCost c, errPlan t] = 0) : orV [errCost c, errPlan t] = errSpend c t := by
  simp only [orV_cons, orV_nil] at h ⊢
  split
  · split
    · rename_i h1 h2
      rw [if_pos h1, if_pos h2] at h; omega
    · exact errSpend_t (by assumption)
  · exact errSpend_c (by assumption)
theorem orV_spend0 (h : orV [errCost c, errPlan t] = 0) : errCost c = 0 ∧ errPlan t = 0 := by
  simp only [orV_cons, orV_nil] at h
  split at h
  · split at h
    · exact ⟨by assumption, by assumption⟩
    · contradiction
  · contradiction
end

@[push_cast] def costVCon : Con := ⟨[.dat (.sl (.sl .int)), .dat (.sl (.sl .int))], fun _ => True, fun (x : List (List Int) × List (List Int) × Unit) => { res := [.val .int (spendV x.1 x.2.1), .val .int (errSpend x.1 x.2.1)] }⟩

theorem pcostv_spec : FnSpec Try.prog 19 costVCon := by
  refine FnSpec.of_tri' (E := know [(21, costCon), (57, planCon), (56, orCon), (58, spendCon)] [] [] []) (know_ok (all_cons pcost_spec (all_cons plan_spec (all_cons or_spec (all_cons scost_spec all_nil)))) all_nil all_nil) Try.func19 rfl rfl (by kernel_rfl) ?_
  intro C x hE hnl hfit hpre
  simp only [Try.ntmps19, Try.results19, maxLen, Nat.reduceSub, Nat.reducePow, Nat.reduceAdd, Int.cast_ofNat_Int, push_cast] at hnl hfit hpre ⊢
  obtain ⟨(c : List (List Int)), (t : List (List Int)), _⟩ := x
  dsimp only at hfit hpre ⊢
  have hA : orV [errCost c, errPlan t] = 0 → (0 < c.length ∧ 0 < t.length) := fun h => ⟨by have := (errCost_in (orV_spend0 h).1).rows; omega, by have := (errPlan_in (orV_spend0 h).2).rows; omega⟩
  repeat' (first | (refine goK (by assumption) ?_; iterate 4 (try clear hK K)) | (refine tri_seqk fun K hK => ?_) | ((first | (refine tri_region hE rfl ?_) | ((first | (refine tri_drawP hE 1 rfl rfl (by kernel_rfl) ?_) | (refine tri_drawP hE 2 rfl rfl (by kernel_rfl) ?_) | (refine tri_drawP hE 3 rfl rfl (by kernel_rfl) ?_) | (refine tri_drawP hE 4 rfl rfl (by kernel_rfl) ?_)); simp only [List.length_cons, List.length_nil, Nat.reduceAdd, Nat.reduceSub, List.take_succ_cons, List.take_zero, List.drop_succ_cons, List.drop_zero])); simp +contextual only [hnl, ↓runK_nil, ↓runK_plain, ↓runK_guard, ↓runQ_nil, ↓runQ_plain, ↓runQ_guard, push_cast, exists_eq_left', Int.reduceEq, Int.reduceLT, Int.reduceLE, Int.reduceNeg, Nat.reduceLT, Nat.reduceLeDiff, Int.reduceToNat, Int.cast_ofNat_Int, Nat.reduceBEq, Nat.reduceMul, Nat.reduceEqDiff, reduceCtorEq, Nat.reduceAdd]) | (refine tri_block ?_) | (refine tri_skip ?_; simp only [thenQ, blockQ, if_true, if_false, Nat.reduceEqDiff, reduceCtorEq]) | (refine tri_exit ?_; simp only [thenQ, blockQ, if_true, if_false, Nat.reduceEqDiff, reduceCtorEq]) | (refine tri_cond (by simp only [push_cast, exists_eq_left', Int.reduceEq, Int.reduceLT, Int.reduceLE, Int.reduceNeg, Nat.reduceLT, Nat.reduceLeDiff, Int.reduceToNat, Int.cast_ofNat_Int, Nat.reduceBEq, Nat.reduceMul, Nat.reduceEqDiff, reduceCtorEq, Nat.reduceAdd]; rfl) (fun hb => ?_) (fun hb => ?_) <;> (try simp only [decide_eq_true_eq, decide_eq_false_iff_not, Bool.not_eq_true', Bool.not_eq_false', reduceCtorEq, Bool.true_eq_false, Bool.false_eq_true] at hb) <;> (try omega)) | (refine tri_unk (by simp only [push_cast, exists_eq_left', Int.reduceEq, Int.reduceLT, Int.reduceLE, Int.reduceNeg, Nat.reduceLT, Nat.reduceLeDiff, Int.reduceToNat, Int.cast_ofNat_Int, Nat.reduceBEq, Nat.reduceMul, Nat.reduceEqDiff, reduceCtorEq, Nat.reduceAdd]) ?_ ?_) | (refine tri_ret ?_; simp only [hnl, push_cast, exists_eq_left', Int.reduceEq, Int.reduceLT, Int.reduceLE, Int.reduceNeg, Nat.reduceLT, Nat.reduceLeDiff, Int.reduceToNat, Int.cast_ofNat_Int, Nat.reduceBEq, Nat.reduceMul, Nat.reduceEqDiff, reduceCtorEq, Nat.reduceAdd]) | (refine And.intro (by first | omega | (unfold InR; omega) | assumption | decide | exact ⟨_, _, rfl⟩) ?_) | (refine ⟨fun hc => ?_, fun hc => ?_⟩) | (intro hc; try omega))
  · have h0 := orV_spend hb
    exact ⟨(spendV_no (by rw [← h0]; exact hb)).symm, h0⟩
  · have h0 : errSpend c t = 1 := errSpend_1 fun h => by omega
    exact ⟨(spendV_no (by omega)).symm, h0.symm⟩
  · have h0 := orV_spend0 (by assumption)
    have h1 := errSpend_0 h0.1 h0.2 (by omega) (by omega)
    clear hb
    refine ⟨h1.2, ?_⟩
    repeat' (first | (refine goK (by assumption) ?_; iterate 4 (try clear hK K)) | (refine tri_seqk fun K hK => ?_) | ((first | (refine tri_region hE rfl ?_) | ((first | (refine tri_drawP hE 1 rfl rfl (by kernel_rfl) ?_) | (refine tri_drawP hE 2 rfl rfl (by kernel_rfl) ?_) | (refine tri_drawP hE 3 rfl rfl (by kernel_rfl) ?_) | (refine tri_drawP hE 4 rfl rfl (by kernel_rfl) ?_)); simp only [List.length_cons, List.length_nil, Nat.reduceAdd, Nat.reduceSub, List.take_succ_cons, List.take_zero, List.drop_succ_cons, List.drop_zero])); simp +contextual only [hnl, ↓runK_nil, ↓runK_plain, ↓runK_guard, ↓runQ_nil, ↓runQ_plain, ↓runQ_guard, push_cast, exists_eq_left', Int.reduceEq, Int.reduceLT, Int.reduceLE, Int.reduceNeg, Nat.reduceLT, Nat.reduceLeDiff, Int.reduceToNat, Int.cast_ofNat_Int, Nat.reduceBEq, Nat.reduceMul, Nat.reduceEqDiff, reduceCtorEq, Nat.reduceAdd]) | (refine tri_block ?_) | (refine tri_skip ?_; simp only [thenQ, blockQ, if_true, if_false, Nat.reduceEqDiff, reduceCtorEq]) | (refine tri_exit ?_; simp only [thenQ, blockQ, if_true, if_false, Nat.reduceEqDiff, reduceCtorEq]) | (refine tri_cond (by simp only [push_cast, exists_eq_left', Int.reduceEq, Int.reduceLT, Int.reduceLE, Int.reduceNeg, Nat.reduceLT, Nat.reduceLeDiff, Int.reduceToNat, Int.cast_ofNat_Int, Nat.reduceBEq, Nat.reduceMul, Nat.reduceEqDiff, reduceCtorEq, Nat.reduceAdd]; rfl) (fun hb => ?_) (fun hb => ?_) <;> (try simp only [decide_eq_true_eq, decide_eq_false_iff_not, Bool.not_eq_true', Bool.not_eq_false', reduceCtorEq, Bool.true_eq_false, Bool.false_eq_true] at hb) <;> (try omega)) | (refine tri_unk (by simp only [push_cast, exists_eq_left', Int.reduceEq, Int.reduceLT, Int.reduceLE, Int.reduceNeg, Nat.reduceLT, Nat.reduceLeDiff, Int.reduceToNat, Int.cast_ofNat_Int, Nat.reduceBEq, Nat.reduceMul, Nat.reduceEqDiff, reduceCtorEq, Nat.reduceAdd]) ?_ ?_) | (refine tri_ret ?_; simp only [hnl, push_cast, exists_eq_left', Int.reduceEq, Int.reduceLT, Int.reduceLE, Int.reduceNeg, Nat.reduceLT, Nat.reduceLeDiff, Int.reduceToNat, Int.cast_ofNat_Int, Nat.reduceBEq, Nat.reduceMul, Nat.reduceEqDiff, reduceCtorEq, Nat.reduceAdd]) | (refine And.intro (by first | omega | (unfold InR; omega) | assumption | decide | exact ⟨_, _, rfl⟩) ?_) | (refine ⟨fun hc => ?_, fun hc => ?_⟩) | (intro hc; try omega))
    exact ⟨(spendV_ok h1.1).symm, h1.1.symm⟩
  · have h0 : errSpend c t = 1 := errSpend_1 fun h => by omega
    exact ⟨(spendV_no (by omega)).symm, h0.symm⟩

theorem qcostv_spec : FnSpec Try.prog 20 costVCon := by
  refine FnSpec.of_tri' (E := know [(22, costCon), (59, planCon), (60, spendCon)] [] [] []) (know_ok (all_cons qcost_spec (all_cons rplan_spec (all_cons spent_spec all_nil))) all_nil all_nil) Try.func20 rfl rfl (by kernel_rfl) ?_
  intro C x hE hnl hfit hpre
  simp only [Try.ntmps20, Try.results20, maxLen, Nat.reduceSub, Nat.reducePow, Nat.reduceAdd, Int.cast_ofNat_Int, push_cast] at hnl hfit hpre ⊢
  obtain ⟨(c : List (List Int)), (t : List (List Int)), _⟩ := x
  dsimp only at hfit hpre ⊢
  have hA : errCost c = 0 → 0 < c.length := fun h => by have := (errCost_in h).rows; omega
  have hB : errPlan t = 0 → 0 < t.length := fun h => by have := (errPlan_in h).rows; omega
  repeat' (first | (refine goK (by assumption) ?_; iterate 4 (try clear hK K)) | (refine tri_seqk fun K hK => ?_) | ((first | (refine tri_region hE rfl ?_) | ((first | (refine tri_drawP hE 1 rfl rfl (by kernel_rfl) ?_) | (refine tri_drawP hE 2 rfl rfl (by kernel_rfl) ?_) | (refine tri_drawP hE 3 rfl rfl (by kernel_rfl) ?_) | (refine tri_drawP hE 4 rfl rfl (by kernel_rfl) ?_)); simp only [List.length_cons, List.length_nil, Nat.reduceAdd, Nat.reduceSub, List.take_succ_cons, List.take_zero, List.drop_succ_cons, List.drop_zero])); simp +contextual only [hnl, ↓runK_nil, ↓runK_plain, ↓runK_guard, ↓runQ_nil, ↓runQ_plain, ↓runQ_guard, push_cast, exists_eq_left', Int.reduceEq, Int.reduceLT, Int.reduceLE, Int.reduceNeg, Nat.reduceLT, Nat.reduceLeDiff, Int.reduceToNat, Int.cast_ofNat_Int, Nat.reduceBEq, Nat.reduceMul, Nat.reduceEqDiff, reduceCtorEq, Nat.reduceAdd]) | (refine tri_block ?_) | (refine tri_skip ?_; simp only [thenQ, blockQ, if_true, if_false, Nat.reduceEqDiff, reduceCtorEq]) | (refine tri_exit ?_; simp only [thenQ, blockQ, if_true, if_false, Nat.reduceEqDiff, reduceCtorEq]) | (refine tri_cond (by simp only [push_cast, exists_eq_left', Int.reduceEq, Int.reduceLT, Int.reduceLE, Int.reduceNeg, Nat.reduceLT, Nat.reduceLeDiff, Int.reduceToNat, Int.cast_ofNat_Int, Nat.reduceBEq, Nat.reduceMul, Nat.reduceEqDiff, reduceCtorEq, Nat.reduceAdd]; rfl) (fun hb => ?_) (fun hb => ?_) <;> (try simp only [decide_eq_true_eq, decide_eq_false_iff_not, Bool.not_eq_true', Bool.not_eq_false', reduceCtorEq, Bool.true_eq_false, Bool.false_eq_true] at hb) <;> (try omega)) | (refine tri_unk (by simp only [push_cast, exists_eq_left', Int.reduceEq, Int.reduceLT, Int.reduceLE, Int.reduceNeg, Nat.reduceLT, Nat.reduceLeDiff, Int.reduceToNat, Int.cast_ofNat_Int, Nat.reduceBEq, Nat.reduceMul, Nat.reduceEqDiff, reduceCtorEq, Nat.reduceAdd]) ?_ ?_) | (refine tri_ret ?_; simp only [hnl, push_cast, exists_eq_left', Int.reduceEq, Int.reduceLT, Int.reduceLE, Int.reduceNeg, Nat.reduceLT, Nat.reduceLeDiff, Int.reduceToNat, Int.cast_ofNat_Int, Nat.reduceBEq, Nat.reduceMul, Nat.reduceEqDiff, reduceCtorEq, Nat.reduceAdd]) | (refine And.intro (by first | omega | (unfold InR; omega) | assumption | decide | exact ⟨_, _, rfl⟩) ?_) | (refine ⟨fun hc => ?_, fun hc => ?_⟩) | (intro hc; try omega))
  · have h0 := errSpend_c (t := t) hb
    exact ⟨(spendV_no (by rw [← h0]; exact hb)).symm, h0⟩
  · have h0 := errSpend_t (c := c) hb
    exact ⟨(spendV_no (by rw [← h0]; exact hb)).symm, h0⟩
  · have h0 : errSpend c t = 1 := errSpend_1 fun h => by omega
    exact ⟨(spendV_no (by omega)).symm, h0.symm⟩
  · have h1 := errSpend_0 (c := c) (t := t) (by assumption) (by assumption) (by omega) (by omega)
    clear hb
    refine ⟨h1.2, ?_⟩
    repeat' (first | (refine goK (by assumption) ?_; iterate 4 (try clear hK K)) | (refine tri_seqk fun K hK => ?_) | ((first | (refine tri_region hE rfl ?_) | ((first | (refine tri_drawP hE 1 rfl rfl (by kernel_rfl) ?_) | (refine tri_drawP hE 2 rfl rfl (by kernel_rfl) ?_) | (refine tri_drawP hE 3 rfl rfl (by kernel_rfl) ?_) | (refine tri_drawP hE 4 rfl rfl (by kernel_rfl) ?_)); simp only [List.length_cons, List.length_nil, Nat.reduceAdd, Nat.reduceSub, List.take_succ_cons, List.take_zero, List.drop_succ_cons, List.drop_zero])); simp +contextual only [hnl, ↓runK_nil, ↓runK_plain, ↓runK_guard, ↓runQ_nil, ↓runQ_plain, ↓runQ_guard, push_cast, exists_eq_left', Int.reduceEq, Int.reduceLT, Int.reduceLE, Int.reduceNeg, Nat.reduceLT, Nat.reduceLeDiff, Int.reduceToNat, Int.cast_ofNat_Int, Nat.reduceBEq, Nat.reduceMul, Nat.reduceEqDiff, reduceCtorEq, Nat.reduceAdd]) | (refine tri_block ?_) | (refine tri_skip ?_; simp only [thenQ, blockQ, if_true, if_false, Nat.reduceEqDiff, reduceCtorEq]) | (refine tri_exit ?_; simp only [thenQ, blockQ, if_true, if_false, Nat.reduceEqDiff, reduceCtorEq]) | (refine tri_cond (by simp only [push_cast, exists_eq_left', Int.reduceEq, Int.reduceLT, Int.reduceLE, Int.reduceNeg, Nat.reduceLT, Nat.reduceLeDiff, Int.reduceToNat, Int.cast_ofNat_Int, Nat.reduceBEq, Nat.reduceMul, Nat.reduceEqDiff, reduceCtorEq, Nat.reduceAdd]; rfl) (fun hb => ?_) (fun hb => ?_) <;> (try simp only [decide_eq_true_eq, decide_eq_false_iff_not, Bool.not_eq_true', Bool.not_eq_false', reduceCtorEq, Bool.true_eq_false, Bool.false_eq_true] at hb) <;> (try omega)) | (refine tri_unk (by simp only [push_cast, exists_eq_left', Int.reduceEq, Int.reduceLT, Int.reduceLE, Int.reduceNeg, Nat.reduceLT, Nat.reduceLeDiff, Int.reduceToNat, Int.cast_ofNat_Int, Nat.reduceBEq, Nat.reduceMul, Nat.reduceEqDiff, reduceCtorEq, Nat.reduceAdd]) ?_ ?_) | (refine tri_ret ?_; simp only [hnl, push_cast, exists_eq_left', Int.reduceEq, Int.reduceLT, Int.reduceLE, Int.reduceNeg, Nat.reduceLT, Nat.reduceLeDiff, Int.reduceToNat, Int.cast_ofNat_Int, Nat.reduceBEq, Nat.reduceMul, Nat.reduceEqDiff, reduceCtorEq, Nat.reduceAdd]) | (refine And.intro (by first | omega | (unfold InR; omega) | assumption | decide | exact ⟨_, _, rfl⟩) ?_) | (refine ⟨fun hc => ?_, fun hc => ?_⟩) | (intro hc; try omega))
    exact ⟨(spendV_ok h1.1).symm, h1.1.symm⟩
  · have h0 : errSpend c t = 1 := errSpend_1 fun h => by omega
    exact ⟨(spendV_no (by omega)).symm, h0.symm⟩
end Go.Proofs.Ytaldpinkkgdklaa
