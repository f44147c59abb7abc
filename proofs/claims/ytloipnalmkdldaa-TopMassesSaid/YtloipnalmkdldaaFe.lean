/- Whether two lists or two tables are equal. No condition. -/
import Derived.Test.YtloipnalmkdldaaFb
namespace Go.Proofs.Ytloipnalmkdldaa
open Go.RowKit Go.VS
set_option linter.unusedSimpArgs false
set_option linter.unusedVariables false

@[push_cast] def sameCon : Con := ⟨[.dat (.sl .int), .dat (.sl .int)], fun _ => True, fun (x : List Int × List Int × Unit) => { res := [.val .bool (decide (x.1 = x.2.1))] }⟩
@[push_cast] def sameTCon : Con := ⟨[.dat (.sl (.sl .int)), .dat (.sl (.sl .int))], fun _ => True, fun (x : List (List Int) × List (List Int) × Unit) => { res := [.val .bool (decide (x.1 = x.2.1))] }⟩

theorem eq_of_getD {α : Type} (d : α) {a b : List α} (hl : a.length = b.length) (h : ∀ j, j < a.length → a.getD j d = b.getD j d) : a = b := by
  apply List.ext_getElem hl
  intro j h1 h2
  have := h j h1
  simpa [List.getD_eq_getElem?_getD, h1, h2] using this

theorem ne_of_getD {α : Type} (d : α) {a b : List α} {k : Nat} (h : ¬ a.getD k d = b.getD k d) : ¬ a = b := fun e => h (by rw [e])

theorem same_spec : FnSpec Try.prog 24 sameCon := by
  refine FnSpec.of_tri' (E := know [] [] [] []) (know_ok all_nil all_nil all_nil) Try.func24 rfl rfl (by kernel_rfl) ?_
  intro C x hE hnl hfit hpre
  simp only [Try.ntmps24, Try.results24, maxLen, Nat.reduceSub, Nat.reducePow, Nat.reduceAdd, Int.cast_ofNat_Int, push_cast] at hnl hfit hpre ⊢
  obtain ⟨(a : List Int), (b : List Int), _⟩ := x
  dsimp only at hfit hpre ⊢
  repeat' (first|(refine goK (by assumption) ?_; iterate 4 (try clear hK K))|(refine tri_seqk fun K hK => ?_)|((first|refine tri_region hE rfl ?_|refine tri_ret ?_|((first|refine tri_drawP hE 1 rfl rfl (by kernel_rfl) ?_|refine tri_drawP hE 2 rfl rfl (by kernel_rfl) ?_|refine tri_drawP hE 3 rfl rfl (by kernel_rfl) ?_|refine tri_drawP hE 4 rfl rfl (by kernel_rfl) ?_); simp only [List.length_cons, List.length_nil, Nat.reduceAdd, Nat.reduceSub, List.take_succ_cons, List.take_zero, List.drop_succ_cons, List.drop_zero])); simp +contextual only [hnl, ↓kN, ↓kP, ↓kG, ↓qN, ↓qP, ↓qG, push_cast, Int.reduceEq, Int.reduceLT, Int.reduceLE, Int.reduceNeg, Nat.reduceLT, Nat.reduceLeDiff, Int.reduceToNat, Int.cast_ofNat_Int, Nat.reduceBEq, Nat.reduceMul, Nat.reduceEqDiff, reduceCtorEq, Nat.reduceAdd])|refine tri_block ?_|((first|refine tri_skip ?_|refine tri_exit ?_); simp only [thenQ, blockQ, if_true, if_false, Nat.reduceEqDiff, reduceCtorEq])|(refine tri_cond (by rfl) (fun hb => ?_) (fun hb => ?_) <;> (try simp only [decide_eq_true_eq, decide_eq_false_iff_not, Bool.not_eq_true', Bool.not_eq_false', reduceCtorEq, Bool.true_eq_false, Bool.false_eq_true] at hb) <;> (try omega))|refine tri_unk (by rfl) ?_ ?_|refine And.intro (by first|omega|(unfold InR; omega)|assumption|decide|exact ⟨_, _, rfl⟩) ?_|(refine ⟨fun hc => ?_, fun hc => ?_⟩)|(intro hc; try omega))
  · exact (decide_eq_false fun e => hb (by rw [e])).symm
  have hlen := hb; clear hb
  refine tri_loopI (fun k : Nat => AS.of [(0, .one (.val (.sl .int) a)), (1, .one (.val (.sl .int) b)), (5, .I k)] [] []) (fun k => k ≤ a.length ∧ ∀ j, j < k → a.getD j 0 = b.getD j 0) (fun k => a.length - k) 0 ⟨Nat.zero_le _, by omega⟩ ?_ ?_
  · refine weak_of ?_ ?_ ?_ <;> simp only [push_cast, Int.reduceEq, Int.reduceLT, Int.reduceLE, Int.reduceNeg, Nat.reduceLT, Nat.reduceLeDiff, Int.reduceToNat, Int.cast_ofNat_Int, Nat.reduceBEq, Nat.reduceMul, Nat.reduceEqDiff, reduceCtorEq, Nat.reduceAdd]
  intro k ⟨hk, hj⟩ K' hL
  repeat' (first|(refine goK (by assumption) ?_; iterate 4 (try clear hK K))|(refine tri_seqk fun K hK => ?_)|((first|refine tri_region hE rfl ?_|refine tri_ret ?_|((first|refine tri_drawP hE 1 rfl rfl (by kernel_rfl) ?_|refine tri_drawP hE 2 rfl rfl (by kernel_rfl) ?_|refine tri_drawP hE 3 rfl rfl (by kernel_rfl) ?_|refine tri_drawP hE 4 rfl rfl (by kernel_rfl) ?_); simp only [List.length_cons, List.length_nil, Nat.reduceAdd, Nat.reduceSub, List.take_succ_cons, List.take_zero, List.drop_succ_cons, List.drop_zero])); simp +contextual only [hnl, ↓kN, ↓kP, ↓kG, ↓qN, ↓qP, ↓qG, push_cast, Int.reduceEq, Int.reduceLT, Int.reduceLE, Int.reduceNeg, Nat.reduceLT, Nat.reduceLeDiff, Int.reduceToNat, Int.cast_ofNat_Int, Nat.reduceBEq, Nat.reduceMul, Nat.reduceEqDiff, reduceCtorEq, Nat.reduceAdd])|refine tri_block ?_|((first|refine tri_skip ?_|refine tri_exit ?_); simp only [thenQ, blockQ, if_true, if_false, Nat.reduceEqDiff, reduceCtorEq])|(refine tri_cond (by rfl) (fun hb => ?_) (fun hb => ?_) <;> (try simp only [decide_eq_true_eq, decide_eq_false_iff_not, Bool.not_eq_true', Bool.not_eq_false', reduceCtorEq, Bool.true_eq_false, Bool.false_eq_true] at hb) <;> (try omega))|refine tri_unk (by rfl) ?_ ?_|refine And.intro (by first|omega|(unfold InR; omega)|assumption|decide|exact ⟨_, _, rfl⟩) ?_|(refine ⟨fun hc => ?_, fun hc => ?_⟩)|(intro hc; try omega))
  · exact (decide_eq_false (ne_of_getD 0 hb)).symm
  · refine hL _ (k + 1) ⟨by omega, fun j hj' => ?_⟩ (by omega) ?_
    · rcases Nat.lt_or_ge j k with h3 | h3
      · exact hj j h3
      · have : j = k := by omega
        subst this
        exact hb
    refine weak_of ?_ ?_ ?_ <;> simp only [push_cast, Int.reduceEq, Int.reduceLT, Int.reduceLE, Int.reduceNeg, Nat.reduceLT, Nat.reduceLeDiff, Int.reduceToNat, Int.cast_ofNat_Int, Nat.reduceBEq, Nat.reduceMul, Nat.reduceEqDiff, reduceCtorEq, Nat.reduceAdd]
  · exact (decide_eq_true (eq_of_getD 0 (by omega) fun j hj' => hj j (by omega))).symm

theorem sameT_spec : FnSpec Try.prog 16 sameTCon := by
  refine FnSpec.of_tri' (E := know [(24, sameCon)] [] [] []) (know_ok (all_cons same_spec all_nil) all_nil all_nil) Try.func16 rfl rfl (by kernel_rfl) ?_
  intro C x hE hnl hfit hpre
  simp only [Try.ntmps16, Try.results16, maxLen, Nat.reduceSub, Nat.reducePow, Nat.reduceAdd, Int.cast_ofNat_Int, push_cast] at hnl hfit hpre ⊢
  obtain ⟨(a : List (List Int)), (b : List (List Int)), _⟩ := x
  dsimp only at hfit hpre ⊢
  repeat' (first|(refine goK (by assumption) ?_; iterate 4 (try clear hK K))|(refine tri_seqk fun K hK => ?_)|((first|refine tri_region hE rfl ?_|refine tri_ret ?_|((first|refine tri_drawP hE 1 rfl rfl (by kernel_rfl) ?_|refine tri_drawP hE 2 rfl rfl (by kernel_rfl) ?_|refine tri_drawP hE 3 rfl rfl (by kernel_rfl) ?_|refine tri_drawP hE 4 rfl rfl (by kernel_rfl) ?_); simp only [List.length_cons, List.length_nil, Nat.reduceAdd, Nat.reduceSub, List.take_succ_cons, List.take_zero, List.drop_succ_cons, List.drop_zero])); simp +contextual only [hnl, ↓kN, ↓kP, ↓kG, ↓qN, ↓qP, ↓qG, push_cast, Int.reduceEq, Int.reduceLT, Int.reduceLE, Int.reduceNeg, Nat.reduceLT, Nat.reduceLeDiff, Int.reduceToNat, Int.cast_ofNat_Int, Nat.reduceBEq, Nat.reduceMul, Nat.reduceEqDiff, reduceCtorEq, Nat.reduceAdd])|refine tri_block ?_|((first|refine tri_skip ?_|refine tri_exit ?_); simp only [thenQ, blockQ, if_true, if_false, Nat.reduceEqDiff, reduceCtorEq])|(refine tri_cond (by rfl) (fun hb => ?_) (fun hb => ?_) <;> (try simp only [decide_eq_true_eq, decide_eq_false_iff_not, Bool.not_eq_true', Bool.not_eq_false', reduceCtorEq, Bool.true_eq_false, Bool.false_eq_true] at hb) <;> (try omega))|refine tri_unk (by rfl) ?_ ?_|refine And.intro (by first|omega|(unfold InR; omega)|assumption|decide|exact ⟨_, _, rfl⟩) ?_|(refine ⟨fun hc => ?_, fun hc => ?_⟩)|(intro hc; try omega))
  · exact (decide_eq_false fun e => hb (by rw [e])).symm
  have hlen := hb; clear hb
  refine tri_loopI (fun k : Nat => AS.of [(0, .one (.val (.sl (.sl .int)) a)), (1, .one (.val (.sl (.sl .int)) b)), (5, .I k)] [] []) (fun k => k ≤ a.length ∧ ∀ j, j < k → a.getD j [] = b.getD j []) (fun k => a.length - k) 0 ⟨Nat.zero_le _, by omega⟩ ?_ ?_
  · refine weak_of ?_ ?_ ?_ <;> simp only [push_cast, Int.reduceEq, Int.reduceLT, Int.reduceLE, Int.reduceNeg, Nat.reduceLT, Nat.reduceLeDiff, Int.reduceToNat, Int.cast_ofNat_Int, Nat.reduceBEq, Nat.reduceMul, Nat.reduceEqDiff, reduceCtorEq, Nat.reduceAdd]
  intro k ⟨hk, hj⟩ K' hL
  repeat' (first|(refine goK (by assumption) ?_; iterate 4 (try clear hK K))|(refine tri_seqk fun K hK => ?_)|((first|refine tri_region hE rfl ?_|refine tri_ret ?_|((first|refine tri_drawP hE 1 rfl rfl (by kernel_rfl) ?_|refine tri_drawP hE 2 rfl rfl (by kernel_rfl) ?_|refine tri_drawP hE 3 rfl rfl (by kernel_rfl) ?_|refine tri_drawP hE 4 rfl rfl (by kernel_rfl) ?_); simp only [List.length_cons, List.length_nil, Nat.reduceAdd, Nat.reduceSub, List.take_succ_cons, List.take_zero, List.drop_succ_cons, List.drop_zero])); simp +contextual only [hnl, ↓kN, ↓kP, ↓kG, ↓qN, ↓qP, ↓qG, push_cast, Int.reduceEq, Int.reduceLT, Int.reduceLE, Int.reduceNeg, Nat.reduceLT, Nat.reduceLeDiff, Int.reduceToNat, Int.cast_ofNat_Int, Nat.reduceBEq, Nat.reduceMul, Nat.reduceEqDiff, reduceCtorEq, Nat.reduceAdd])|refine tri_block ?_|((first|refine tri_skip ?_|refine tri_exit ?_); simp only [thenQ, blockQ, if_true, if_false, Nat.reduceEqDiff, reduceCtorEq])|(refine tri_cond (by rfl) (fun hb => ?_) (fun hb => ?_) <;> (try simp only [decide_eq_true_eq, decide_eq_false_iff_not, Bool.not_eq_true', Bool.not_eq_false', reduceCtorEq, Bool.true_eq_false, Bool.false_eq_true] at hb) <;> (try omega))|refine tri_unk (by rfl) ?_ ?_|refine And.intro (by first|omega|(unfold InR; omega)|assumption|decide|exact ⟨_, _, rfl⟩) ?_|(refine ⟨fun hc => ?_, fun hc => ?_⟩)|(intro hc; try omega))
  · exact (decide_eq_false (ne_of_getD [] hb)).symm
  · refine hL _ (k + 1) ⟨by omega, fun j hj' => ?_⟩ (by omega) ?_
    · rcases Nat.lt_or_ge j k with h3 | h3
      · exact hj j h3
      · have : j = k := by omega
        subst this
        exact hb
    refine weak_of ?_ ?_ ?_ <;> simp only [push_cast, Int.reduceEq, Int.reduceLT, Int.reduceLE, Int.reduceNeg, Nat.reduceLT, Nat.reduceLeDiff, Int.reduceToNat, Int.cast_ofNat_Int, Nat.reduceBEq, Nat.reduceMul, Nat.reduceEqDiff, reduceCtorEq, Nat.reduceAdd]
  · exact (decide_eq_true (eq_of_getD [] (by omega) fun j hj' => hj j (by omega))).symm

end Go.Proofs.Ytloipnalmkdldaa
