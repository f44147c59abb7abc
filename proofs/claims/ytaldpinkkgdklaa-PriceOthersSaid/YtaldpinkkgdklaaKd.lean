/- The statement PriceOthers: for every job, plan and prices. No condition. -/
import Derived.Test.YtaldpinkkgdklaaKa
namespace Go.Proofs.Ytaldpinkkgdklaa
open Go.RowKit Go.VS Go.OT
set_option linter.unusedSimpArgs false
set_option linter.unusedVariables false

@[push_cast] def trueOthers : Con := ⟨[.dat (.prod (.sl .int) (.prod (.sl .int) (.sl (.sl .int)))), .dat (.sl (.sl .int)), .dat (.prod (.sl .int) (.sl .int))], fun _ => True, fun _ => { res := [.val .bool true] }⟩

theorem others_fn : FnSpec Try.prog 15 trueOthers := by
  refine FnSpec.of_tri' (E := know [(16, longJCon), (17, wideCon), (42, dearCon), (18, knownCon), (55, bestBCon), (32, cheapPCon), (33, pricesCon)] [] [] []) (know_ok (all_cons longJ_spec (all_cons wide_spec (all_cons dear_spec (all_cons known_spec (all_cons pbest_spec (all_cons pcheap_spec (all_cons pprices_spec all_nil))))))) all_nil all_nil) Try.func15 rfl rfl (by kernel_rfl) ?_
  intro C x hE hnl hfit hpre
  simp only [Try.ntmps15, Try.results15, maxLen, Nat.reduceSub, Nat.reducePow, Nat.reduceAdd, Int.cast_ofNat_Int, push_cast] at hnl hfit hpre ⊢
  obtain ⟨⟨(a : List Int), (b : List Int), (c : List (List Int))⟩, (t : List (List Int)), (p : Prices), _⟩ := x
  dsimp only at hfit hpre ⊢
  by_cases h1 : errBest a b c t p = 0
  · obtain ⟨e0, _⟩ := best_values h1
    have h2 := best_own e0
    have e1 := best_other h1 h2
    have e2 := best_other h2 h1
    have e5 := cheapP_0 e0
    replace hnl := And.intro hnl (And.intro h1 (And.intro e0 (And.intro e1 (And.intro e2 e5))))
    repeat' (first | (refine goK (by assumption) ?_; iterate 4 (try clear hK K)) | (refine tri_seqk fun K hK => ?_) | ((first | (refine tri_region hE rfl ?_) | (refine tri_ret ?_) | ((first | (refine tri_drawP hE 1 rfl rfl (by kernel_rfl) ?_) | (refine tri_drawP hE 2 rfl rfl (by kernel_rfl) ?_) | (refine tri_drawP hE 3 rfl rfl (by kernel_rfl) ?_) | (refine tri_drawP hE 4 rfl rfl (by kernel_rfl) ?_)); simp only [List.length_cons, List.length_nil, Nat.reduceAdd, Nat.reduceSub, List.take_succ_cons, List.take_zero, List.drop_succ_cons, List.drop_zero])); simp +contextual only [hnl, ↓runK_nil, ↓runK_plain, ↓runK_guard, ↓runQ_nil, ↓runQ_plain, ↓runQ_guard, push_cast, exists_eq_left', Int.reduceEq, Int.reduceLT, Int.reduceLE, Int.reduceNeg, Nat.reduceLT, Nat.reduceLeDiff, Int.reduceToNat, Int.cast_ofNat_Int, Nat.reduceBEq, Nat.reduceMul, Nat.reduceEqDiff, reduceCtorEq, Nat.reduceAdd]) | (refine tri_block ?_) | (refine tri_skip ?_; simp only [thenQ, blockQ, if_true, if_false, Nat.reduceEqDiff, reduceCtorEq]) | (refine tri_exit ?_; simp only [thenQ, blockQ, if_true, if_false, Nat.reduceEqDiff, reduceCtorEq]) | (refine tri_cond (by rfl) (fun hb => ?_) (fun hb => ?_) <;> (try simp only [decide_eq_true_eq, decide_eq_false_iff_not, Bool.not_eq_true', Bool.not_eq_false', reduceCtorEq, Bool.true_eq_false, Bool.false_eq_true] at hb) <;> (try omega)) | (refine tri_unk (by rfl) ?_ ?_) | (refine And.intro (by first | omega | (unfold InR; omega) | assumption | decide | exact ⟨_, _, rfl⟩) ?_) | (refine ⟨fun hc => ?_, fun hc => ?_⟩) | (intro hc; try omega))
  · replace hnl := And.intro hnl (eq_false h1)
    repeat' (first | (refine goK (by assumption) ?_; iterate 4 (try clear hK K)) | (refine tri_seqk fun K hK => ?_) | ((first | (refine tri_region hE rfl ?_) | (refine tri_ret ?_) | ((first | (refine tri_drawP hE 1 rfl rfl (by kernel_rfl) ?_) | (refine tri_drawP hE 2 rfl rfl (by kernel_rfl) ?_) | (refine tri_drawP hE 3 rfl rfl (by kernel_rfl) ?_) | (refine tri_drawP hE 4 rfl rfl (by kernel_rfl) ?_)); simp only [List.length_cons, List.length_nil, Nat.reduceAdd, Nat.reduceSub, List.take_succ_cons, List.take_zero, List.drop_succ_cons, List.drop_zero])); simp +contextual only [hnl, ↓runK_nil, ↓runK_plain, ↓runK_guard, ↓runQ_nil, ↓runQ_plain, ↓runQ_guard, push_cast, exists_eq_left', Int.reduceEq, Int.reduceLT, Int.reduceLE, Int.reduceNeg, Nat.reduceLT, Nat.reduceLeDiff, Int.reduceToNat, Int.cast_ofNat_Int, Nat.reduceBEq, Nat.reduceMul, Nat.reduceEqDiff, reduceCtorEq, Nat.reduceAdd]) | (refine tri_block ?_) | (refine tri_skip ?_; simp only [thenQ, blockQ, if_true, if_false, Nat.reduceEqDiff, reduceCtorEq]) | (refine tri_exit ?_; simp only [thenQ, blockQ, if_true, if_false, Nat.reduceEqDiff, reduceCtorEq]) | (refine tri_cond (by rfl) (fun hb => ?_) (fun hb => ?_) <;> (try simp only [decide_eq_true_eq, decide_eq_false_iff_not, Bool.not_eq_true', Bool.not_eq_false', reduceCtorEq, Bool.true_eq_false, Bool.false_eq_true] at hb) <;> (try omega)) | (refine tri_unk (by rfl) ?_ ?_) | (refine And.intro (by first | omega | (unfold InR; omega) | assumption | decide | exact ⟨_, _, rfl⟩) ?_) | (refine ⟨fun hc => ?_, fun hc => ?_⟩) | (intro hc; try omega))
end Go.Proofs.Ytaldpinkkgdklaa
