/- The statement PriceWorths: for every job and prices. No condition. -/
import Derived.Test.YtaldpinkkgdklaaGv
import Derived.Test.YtaldpinkkgdklaaHd
namespace Go.Proofs.Ytaldpinkkgdklaa
open Go.RowKit Go.VS
set_option linter.unusedSimpArgs false
set_option linter.unusedVariables false

@[push_cast] def trueWorths : Con := ⟨[.dat (.prod (.sl .int) (.prod (.sl .int) (.sl (.sl .int)))), .dat (.prod (.sl .int) (.sl .int))], fun _ => True, fun _ => { res := [.val .bool true] }⟩

theorem worths_fn : FnSpec Try.prog 7 trueWorths := by
  refine FnSpec.of_tri' (E := know [(16, longJCon), (42, dearCon), (18, knownCon), (43, worthWCon), (34, worthWCon), (41, prCon), (44, prCon)] [] [] []) (know_ok (all_cons longJ_spec (all_cons dear_spec (all_cons known_spec (all_cons pworthW_spec (all_cons qworthW_spec (all_cons ppr_spec (all_cons qpr_spec all_nil))))))) all_nil all_nil) Try.func7 rfl rfl (by kernel_rfl) ?_
  intro C x hE hnl hfit hpre
  simp only [Try.ntmps7, Try.results7, maxLen, Nat.reduceSub, Nat.reducePow, Nat.reduceAdd, Int.cast_ofNat_Int, push_cast] at hnl hfit hpre ⊢
  obtain ⟨⟨(a : List Int), (b : List Int), (c : List (List Int))⟩, (p : Prices), _⟩ := x
  dsimp only at hfit hpre ⊢
  repeat' (first | (refine goK (by assumption) ?_; iterate 4 (try clear hK K)) | (refine tri_seqk fun K hK => ?_) | ((first | (refine tri_region hE rfl ?_) | ((first | (refine tri_drawP hE 1 rfl rfl (by kernel_rfl) ?_) | (refine tri_drawP hE 2 rfl rfl (by kernel_rfl) ?_) | (refine tri_drawP hE 3 rfl rfl (by kernel_rfl) ?_) | (refine tri_drawP hE 4 rfl rfl (by kernel_rfl) ?_)); simp only [List.length_cons, List.length_nil, Nat.reduceAdd, Nat.reduceSub, List.take_succ_cons, List.take_zero, List.drop_succ_cons, List.drop_zero])); simp +contextual only [hnl, ↓runK_nil, ↓runK_plain, ↓runK_guard, ↓runQ_nil, ↓runQ_plain, ↓runQ_guard, push_cast, exists_eq_left', Int.reduceEq, Int.reduceLT, Int.reduceLE, Int.reduceNeg, Nat.reduceLT, Nat.reduceLeDiff, Int.reduceToNat, Int.cast_ofNat_Int, Nat.reduceBEq, Nat.reduceMul, Nat.reduceEqDiff, reduceCtorEq, Nat.reduceAdd]) | (refine tri_block ?_) | (refine tri_skip ?_; simp only [thenQ, blockQ, if_true, if_false, Nat.reduceEqDiff, reduceCtorEq]) | (refine tri_exit ?_; simp only [thenQ, blockQ, if_true, if_false, Nat.reduceEqDiff, reduceCtorEq]) | (refine tri_cond (by simp only [push_cast, exists_eq_left', Int.reduceEq, Int.reduceLT, Int.reduceLE, Int.reduceNeg, Nat.reduceLT, Nat.reduceLeDiff, Int.reduceToNat, Int.cast_ofNat_Int, Nat.reduceBEq, Nat.reduceMul, Nat.reduceEqDiff, reduceCtorEq, Nat.reduceAdd]; rfl) (fun hb => ?_) (fun hb => ?_) <;> (try simp only [decide_eq_true_eq, decide_eq_false_iff_not, Bool.not_eq_true', Bool.not_eq_false', reduceCtorEq, Bool.true_eq_false, Bool.false_eq_true] at hb) <;> (try omega)) | (refine tri_unk (by simp only [push_cast, exists_eq_left', Int.reduceEq, Int.reduceLT, Int.reduceLE, Int.reduceNeg, Nat.reduceLT, Nat.reduceLeDiff, Int.reduceToNat, Int.cast_ofNat_Int, Nat.reduceBEq, Nat.reduceMul, Nat.reduceEqDiff, reduceCtorEq, Nat.reduceAdd]) ?_ ?_) | (refine tri_ret ?_; simp only [hnl, push_cast, exists_eq_left', Int.reduceEq, Int.reduceLT, Int.reduceLE, Int.reduceNeg, Nat.reduceLT, Nat.reduceLeDiff, Int.reduceToNat, Int.cast_ofNat_Int, Nat.reduceBEq, Nat.reduceMul, Nat.reduceEqDiff, reduceCtorEq, Nat.reduceAdd]) | (refine And.intro (by first | omega | (unfold InR; omega) | assumption | decide | exact ⟨_, _, rfl⟩) ?_) | (refine ⟨fun hc => ?_, fun hc => ?_⟩) | (intro hc; try omega))
end Go.Proofs.Ytaldpinkkgdklaa
