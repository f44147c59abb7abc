/- The statement MassPushes: for every two lists and every number. No condition. -/
import Derived.Test.YtnicofjegkkppaaFh
import Derived.Test.YtnicofjegkkppaaFq
namespace Go.Proofs.Ytnicofjegkkppaa
open Go.RowKit Go.VS
set_option linter.unusedSimpArgs false
set_option linter.unusedVariables false

@[push_cast] def trueConQ : Con := ⟨[.dat (.sl .int), .dat (.sl .int), .dat .int], fun _ => True, fun _ => { res := [.val .bool true] }⟩

theorem lsum_add2 (f g : Nat → Int) : ∀ n, lsum (tbl n fun j => f j + g j) = lsum (tbl n f) + lsum (tbl n g)
  | 0 => rfl
  | n + 1 => by
    rw [lsum_tbl_succ, lsum_tbl_succ, lsum_tbl_succ, lsum_add2 f g n]
    omega
theorem lsum_zero : ∀ n, lsum (tbl n fun _ => 0) = 0
  | 0 => rfl
  | n + 1 => by rw [lsum_tbl_succ, lsum_zero n]; rfl
theorem lsum_swap (f : Nat → Nat → Int) (m : Nat) : ∀ n, lsum (tbl n fun i => lsum (tbl m fun j => f i j)) = lsum (tbl m fun j => lsum (tbl n fun i => f i j))
  | 0 => (lsum_zero m).symm
  | n + 1 => by
    rw [lsum_tbl_succ, lsum_swap f m n, ← lsum_add2]
    congr 1
    exact tbl_congr fun j _ => (lsum_tbl_succ _ _).symm
theorem lsum_one (f : Nat → Int) (c : Nat) : ∀ n, lsum (tbl n fun j => if c = j then f j else 0) = if c < n then f c else 0
  | 0 => rfl
  | n + 1 => by
    rw [lsum_tbl_succ, lsum_one f c n]
    by_cases h : c = n
    · subst h
      rw [if_neg (Nat.lt_irrefl _), if_pos rfl, if_pos (Nat.lt_succ_self _)]
      omega
    · rw [if_neg h]
      by_cases h2 : c < n
      · rw [if_pos h2, if_pos (by omega)]
        omega
      · rw [if_neg h2, if_neg (by omega)]
        rfl

theorem carry_check {a to : List Int} {n : Int} (h : errPushM a to n = 0) : errCheck a (pushV a to n) (carryT a to n) = 0 := by
  have he : errPush a to n = 0 := by
    unfold errPushM at h
    split at h
    · assumption
    · simp at h
  have ho : okMass (pushV a to n) = true := by
    unfold errPushM at h
    rw [if_pos he] at h
    split at h
    · assumption
    · simp at h
  obtain ⟨ha, ⟨hn1, hn2⟩, hl, hto⟩ := errPush_in he
  have la := okMass_len (errMass_ok ha)
  have hlen : (carryT a to n).length = a.length := tbl_len _ _
  have hw : wid (carryT a to n) = n.toNat := by
    unfold wid carryT
    rw [tbl_get _ _ (by omega), tbl_len]
  have hrow : ∀ i, i < a.length → (carryT a to n).getD i [] = tbl n.toNat fun c => hitF a to c i := fun i hi => tbl_get _ _ hi
  have hin : InPlan (carryT a to n) := by
    refine inPlan_of (by rw [hlen]; exact la) (by rw [hw]; omega) fun i hi => ?_
    rw [hlen] at hi
    rw [hw, hrow i hi]
    refine ⟨tbl_len _ _, fun j hj => ?_⟩
    rw [tbl_get _ _ hj]
    have := hitF_in ha (c := j) (to := to) hi
    omega
  have hrows : rowsP (carryT a to n) = a := by
    conv => rhs; rw [list_tbl a 0]
    rw [rowsP, map_tbl _ [], hlen]
    refine tbl_congr fun i hi => ?_
    rw [hrow i hi]
    have hj := hto _ (getD_mem 0 (show i < to.length by omega))
    obtain ⟨c, hc'⟩ : ∃ c : Nat, to.getD i 0 = (c : Int) := ⟨(to.getD i 0).toNat, by omega⟩
    have : (tbl n.toNat fun d => hitF a to d i) = tbl n.toNat fun d => if c = d then a.getD i 0 else 0 := tbl_congr fun d _ => by
      unfold hitF
      rw [hc']
      by_cases h : c = d
      · rw [if_pos h, if_pos (by omega)]
      · rw [if_neg h, if_neg (by omega)]
    rw [this, lsum_one (fun _ => a.getD i 0), if_pos (by omega)]
  have hcols : colsP (carryT a to n) = pushV a to n := by
    unfold colsP pushV
    rw [hw]
    refine tbl_congr fun c hc => ?_
    unfold colP
    rw [map_tbl _ [], hlen]
    congr 1
    refine tbl_congr fun i hi => ?_
    rw [hrow i hi, tbl_get _ _ hc]
  have hsum : lsum a = lsum (pushV a to n) := by
    conv => lhs; rw [← hrows]
    rw [rowsP, map_tbl _ [], hlen]
    have : (tbl a.length fun i => lsum ((carryT a to n).getD i [])) = tbl a.length fun i => lsum (tbl n.toNat fun c => hitF a to c i) := tbl_congr fun i hi => by rw [hrow i hi]
    rw [this, lsum_swap (fun i c => hitF a to c i)]
    rfl
  unfold errCheck
  rw [if_pos (errMass_ok ha), if_pos ho, if_pos (okPlan_iff.2 hin), if_pos hsum, if_pos ⟨hrows, hcols⟩]

theorem pushes_fn : FnSpec Try.prog 13 trueConQ := by
  refine FnSpec.of_tri' (E := know [(16, manyCon), (17, knownCon), (50, pushMCon), (51, pushMCon), (52, carryCon), (53, carryCon), (33, sameCon), (37, sameTCon), (38, checkCon)] [] [] []) (know_ok (all_cons many_spec (all_cons known_spec (all_cons push_spec (all_cons rpush_spec (all_cons carry_spec (all_cons rcarry_spec (all_cons same_spec (all_cons sameT_spec (all_cons check_spec all_nil))))))))) all_nil all_nil) Try.func13 rfl rfl (by kernel_rfl) ?_
  intro C x hE hnl hfit hpre
  simp only [Try.ntmps13, Try.results13, maxLen, Nat.reduceSub, Nat.reducePow, Nat.reduceAdd, Int.cast_ofNat_Int, push_cast] at hnl hfit hpre ⊢
  obtain ⟨(a : List Int), (to : List Int), (n : Int), _⟩ := x
  dsimp only at hfit hpre ⊢
  by_cases he : errPush a to n = 0
  · by_cases hM : errPushM a to n = 0
    · replace hnl := And.intro hnl (And.intro he (And.intro hM (carry_check hM)))
      repeat' (first | (refine goK (by assumption) ?_; iterate 4 (try clear hK K)) | (refine tri_seqk fun K hK => ?_) | ((first | (refine tri_region hE rfl ?_) | ((first | (refine tri_drawP hE 1 rfl rfl (by kernel_rfl) ?_) | (refine tri_drawP hE 2 rfl rfl (by kernel_rfl) ?_) | (refine tri_drawP hE 3 rfl rfl (by kernel_rfl) ?_) | (refine tri_drawP hE 4 rfl rfl (by kernel_rfl) ?_)); simp only [List.length_cons, List.length_nil, Nat.reduceAdd, Nat.reduceSub, List.take_succ_cons, List.take_zero, List.drop_succ_cons, List.drop_zero])); simp +contextual only [hnl, ↓runK_nil, ↓runK_plain, ↓runK_guard, ↓runQ_nil, ↓runQ_plain, ↓runQ_guard, push_cast, Int.reduceEq, Int.reduceLT, Int.reduceLE, Int.reduceNeg, Nat.reduceLT, Nat.reduceLeDiff, Int.reduceToNat, Int.cast_ofNat_Int, Nat.reduceBEq, Nat.reduceMul, Nat.reduceEqDiff, reduceCtorEq, Nat.reduceAdd]) | (refine tri_block ?_) | (refine tri_skip ?_; simp only [thenQ, blockQ, if_true, if_false, Nat.reduceEqDiff, reduceCtorEq]) | (refine tri_exit ?_; simp only [thenQ, blockQ, if_true, if_false, Nat.reduceEqDiff, reduceCtorEq]) | (refine tri_cond (by simp only [push_cast, Int.reduceEq, Int.reduceLT, Int.reduceLE, Int.reduceNeg, Nat.reduceLT, Nat.reduceLeDiff, Int.reduceToNat, Int.cast_ofNat_Int, Nat.reduceBEq, Nat.reduceMul, Nat.reduceEqDiff, reduceCtorEq, Nat.reduceAdd]; rfl) (fun hb => ?_) (fun hb => ?_) <;> (try simp only [decide_eq_true_eq, decide_eq_false_iff_not, Bool.not_eq_true', Bool.not_eq_false', reduceCtorEq, Bool.true_eq_false, Bool.false_eq_true] at hb) <;> (try omega)) | (refine tri_unk (by simp only [push_cast, Int.reduceEq, Int.reduceLT, Int.reduceLE, Int.reduceNeg, Nat.reduceLT, Nat.reduceLeDiff, Int.reduceToNat, Int.cast_ofNat_Int, Nat.reduceBEq, Nat.reduceMul, Nat.reduceEqDiff, reduceCtorEq, Nat.reduceAdd]) ?_ ?_) | (refine tri_ret ?_; simp only [hnl, push_cast, Int.reduceEq, Int.reduceLT, Int.reduceLE, Int.reduceNeg, Nat.reduceLT, Nat.reduceLeDiff, Int.reduceToNat, Int.cast_ofNat_Int, Nat.reduceBEq, Nat.reduceMul, Nat.reduceEqDiff, reduceCtorEq, Nat.reduceAdd]) | (refine And.intro (by first | omega | (unfold InR; omega) | assumption | decide) ?_) | (refine ⟨fun hc => ?_, fun hc => ?_⟩) | (intro hc; try omega))
    · replace hnl := And.intro hnl (And.intro he hM)
      repeat' (first | (refine goK (by assumption) ?_; iterate 4 (try clear hK K)) | (refine tri_seqk fun K hK => ?_) | ((first | (refine tri_region hE rfl ?_) | ((first | (refine tri_drawP hE 1 rfl rfl (by kernel_rfl) ?_) | (refine tri_drawP hE 2 rfl rfl (by kernel_rfl) ?_) | (refine tri_drawP hE 3 rfl rfl (by kernel_rfl) ?_) | (refine tri_drawP hE 4 rfl rfl (by kernel_rfl) ?_)); simp only [List.length_cons, List.length_nil, Nat.reduceAdd, Nat.reduceSub, List.take_succ_cons, List.take_zero, List.drop_succ_cons, List.drop_zero])); simp +contextual only [hnl, ↓runK_nil, ↓runK_plain, ↓runK_guard, ↓runQ_nil, ↓runQ_plain, ↓runQ_guard, push_cast, Int.reduceEq, Int.reduceLT, Int.reduceLE, Int.reduceNeg, Nat.reduceLT, Nat.reduceLeDiff, Int.reduceToNat, Int.cast_ofNat_Int, Nat.reduceBEq, Nat.reduceMul, Nat.reduceEqDiff, reduceCtorEq, Nat.reduceAdd]) | (refine tri_block ?_) | (refine tri_skip ?_; simp only [thenQ, blockQ, if_true, if_false, Nat.reduceEqDiff, reduceCtorEq]) | (refine tri_exit ?_; simp only [thenQ, blockQ, if_true, if_false, Nat.reduceEqDiff, reduceCtorEq]) | (refine tri_cond (by simp only [push_cast, Int.reduceEq, Int.reduceLT, Int.reduceLE, Int.reduceNeg, Nat.reduceLT, Nat.reduceLeDiff, Int.reduceToNat, Int.cast_ofNat_Int, Nat.reduceBEq, Nat.reduceMul, Nat.reduceEqDiff, reduceCtorEq, Nat.reduceAdd]; rfl) (fun hb => ?_) (fun hb => ?_) <;> (try simp only [decide_eq_true_eq, decide_eq_false_iff_not, Bool.not_eq_true', Bool.not_eq_false', reduceCtorEq, Bool.true_eq_false, Bool.false_eq_true] at hb) <;> (try omega)) | (refine tri_unk (by simp only [push_cast, Int.reduceEq, Int.reduceLT, Int.reduceLE, Int.reduceNeg, Nat.reduceLT, Nat.reduceLeDiff, Int.reduceToNat, Int.cast_ofNat_Int, Nat.reduceBEq, Nat.reduceMul, Nat.reduceEqDiff, reduceCtorEq, Nat.reduceAdd]) ?_ ?_) | (refine tri_ret ?_; simp only [hnl, push_cast, Int.reduceEq, Int.reduceLT, Int.reduceLE, Int.reduceNeg, Nat.reduceLT, Nat.reduceLeDiff, Int.reduceToNat, Int.cast_ofNat_Int, Nat.reduceBEq, Nat.reduceMul, Nat.reduceEqDiff, reduceCtorEq, Nat.reduceAdd]) | (refine And.intro (by first | omega | (unfold InR; omega) | assumption | decide) ?_) | (refine ⟨fun hc => ?_, fun hc => ?_⟩) | (intro hc; try omega))
  · have hM : ¬ errPushM a to n = 0 := by rw [errPushM_1 he]; decide
    replace hnl := And.intro hnl (And.intro he hM)
    repeat' (first | (refine goK (by assumption) ?_; iterate 4 (try clear hK K)) | (refine tri_seqk fun K hK => ?_) | ((first | (refine tri_region hE rfl ?_) | ((first | (refine tri_drawP hE 1 rfl rfl (by kernel_rfl) ?_) | (refine tri_drawP hE 2 rfl rfl (by kernel_rfl) ?_) | (refine tri_drawP hE 3 rfl rfl (by kernel_rfl) ?_) | (refine tri_drawP hE 4 rfl rfl (by kernel_rfl) ?_)); simp only [List.length_cons, List.length_nil, Nat.reduceAdd, Nat.reduceSub, List.take_succ_cons, List.take_zero, List.drop_succ_cons, List.drop_zero])); simp +contextual only [hnl, ↓runK_nil, ↓runK_plain, ↓runK_guard, ↓runQ_nil, ↓runQ_plain, ↓runQ_guard, push_cast, Int.reduceEq, Int.reduceLT, Int.reduceLE, Int.reduceNeg, Nat.reduceLT, Nat.reduceLeDiff, Int.reduceToNat, Int.cast_ofNat_Int, Nat.reduceBEq, Nat.reduceMul, Nat.reduceEqDiff, reduceCtorEq, Nat.reduceAdd]) | (refine tri_block ?_) | (refine tri_skip ?_; simp only [thenQ, blockQ, if_true, if_false, Nat.reduceEqDiff, reduceCtorEq]) | (refine tri_exit ?_; simp only [thenQ, blockQ, if_true, if_false, Nat.reduceEqDiff, reduceCtorEq]) | (refine tri_cond (by simp only [push_cast, Int.reduceEq, Int.reduceLT, Int.reduceLE, Int.reduceNeg, Nat.reduceLT, Nat.reduceLeDiff, Int.reduceToNat, Int.cast_ofNat_Int, Nat.reduceBEq, Nat.reduceMul, Nat.reduceEqDiff, reduceCtorEq, Nat.reduceAdd]; rfl) (fun hb => ?_) (fun hb => ?_) <;> (try simp only [decide_eq_true_eq, decide_eq_false_iff_not, Bool.not_eq_true', Bool.not_eq_false', reduceCtorEq, Bool.true_eq_false, Bool.false_eq_true] at hb) <;> (try omega)) | (refine tri_unk (by simp only [push_cast, Int.reduceEq, Int.reduceLT, Int.reduceLE, Int.reduceNeg, Nat.reduceLT, Nat.reduceLeDiff, Int.reduceToNat, Int.cast_ofNat_Int, Nat.reduceBEq, Nat.reduceMul, Nat.reduceEqDiff, reduceCtorEq, Nat.reduceAdd]) ?_ ?_) | (refine tri_ret ?_; simp only [hnl, push_cast, Int.reduceEq, Int.reduceLT, Int.reduceLE, Int.reduceNeg, Nat.reduceLT, Nat.reduceLeDiff, Int.reduceToNat, Int.cast_ofNat_Int, Nat.reduceBEq, Nat.reduceMul, Nat.reduceEqDiff, reduceCtorEq, Nat.reduceAdd]) | (refine And.intro (by first | omega | (unfold InR; omega) | assumption | decide) ?_) | (refine ⟨fun hc => ?_, fun hc => ?_⟩) | (intro hc; try omega))
end Go.Proofs.Ytnicofjegkkppaa
