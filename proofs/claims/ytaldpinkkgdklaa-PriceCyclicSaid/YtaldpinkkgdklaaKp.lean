/- The statement PriceCyclic: for every table and links. No condition. -/
import Derived.Test.YtaldpinkkgdklaaKl
import Derived.Test.YtaldpinkkgdklaaGv
namespace Go.Proofs.Ytaldpinkkgdklaa
open Go.RowKit Go.VS Go.OT Go.LC
set_option linter.unusedSimpArgs false
set_option linter.unusedVariables false

@[push_cast] def trueCyclic : Con := ⟨[.dat (.sl (.sl .int)), .dat (.sl (.prod .int .int))], fun _ => True, fun _ => { res := [.val .bool true] }⟩

set_option maxHeartbeats 4000000 in
theorem cyclic_fn : FnSpec Try.prog 9 trueCyclic := by
  refine FnSpec.of_tri' (E := know [(17, wideCon), (18, knownCon), (47, isCon), (48, isCon), (49, rndCon), (46, roundCon)] [] [] []) (know_ok (all_cons wide_spec (all_cons known_spec (all_cons pis_spec (all_cons qis_spec (all_cons prnd_spec (all_cons qround_spec all_nil)))))) all_nil all_nil) Try.func9 rfl rfl (by kernel_rfl) ?_
  intro C x hE hnl hfit hpre
  simp only [Try.ntmps9, Try.results9, maxLen, Nat.reduceSub, Nat.reducePow, Nat.reduceAdd, Int.cast_ofNat_Int, push_cast] at hnl hfit hpre ⊢
  obtain ⟨(c : List (List Int)), (l : List Pr), _⟩ := x
  dsimp only at hfit hpre ⊢
  have b1 : (true != true) = false := rfl
  have b2 : (false != false) = false := rfl
  have b3 : (!true) = false := rfl
  have b4 : (!false) = true := rfl
  have b5 : (false == false) = true := rfl
  have b6 : decide ((0 : Int) = 0) = true := rfl
  have b7 : (true == true) = true := rfl
  have b8 : ∀ n : Int, decide (n = n) = true := fun n => decide_eq_true rfl
  have b9 : ∀ p : Prop, (False ∧ p) = False := fun p => false_and p
  have b10 : ∀ p : Prop, (p ∧ False) = False := fun p => and_false p
  have b11 : ∀ i : Decidable False, @decide False i = false := fun i => decide_eq_false id
  replace hnl := And.intro hnl (And.intro b9 (And.intro b10 b11))
  replace hnl := And.intro hnl (And.intro b1 (And.intro b2 (And.intro b3 (And.intro b4 (And.intro b5 (And.intro b6 (And.intro b7 b8)))))))
  by_cases he : errLinks c l = 0
  · obtain ⟨hc, hl⟩ := errLinks_ok he
    have e1 : roundR c l = roundL c l := if_pos he
    by_cases hn : CycP c l
    · have e2 := roundL_nil hn
      replace hnl := And.intro hnl (And.intro he (And.intro e1 (And.intro e2 (eq_true hn))))
      repeat' (first|(refine goK (by assumption) ?_; iterate 4 (try clear hK K))|(refine tri_seqk fun K hK => ?_)|((first|refine tri_region hE rfl ?_|refine tri_ret ?_); simp +contextual only [hnl, ↓kN, ↓kP, ↓kG, ↓qN, ↓qP, ↓qG, push_cast, Int.reduceEq, Int.reduceLT, Int.reduceLE, Int.reduceNeg, Nat.reduceLT, Nat.reduceLeDiff, Int.reduceToNat, Int.cast_ofNat_Int, Nat.reduceBEq, Nat.reduceMul, Nat.reduceEqDiff, reduceCtorEq, Nat.reduceAdd])|refine tri_block ?_|((first|refine tri_skip ?_|refine tri_exit ?_); simp only [thenQ, blockQ, if_true, if_false, Nat.reduceEqDiff, reduceCtorEq])|(refine tri_cond (by rfl) (fun hb => ?_) (fun hb => ?_) <;> (try simp only [decide_eq_true_eq, decide_eq_false_iff_not, Bool.not_eq_true', Bool.not_eq_false', reduceCtorEq, Bool.true_eq_false, Bool.false_eq_true] at hb) <;> (try omega))|refine tri_unk (by rfl) ?_ ?_|refine And.intro (by first|omega|(unfold InR; omega)|assumption|decide|exact ⟨_, _, rfl⟩) ?_|(refine ⟨fun hc => ?_, fun hc => ?_⟩)|(intro hc; try omega))
    · obtain ⟨k1, k2, k3⟩ := roundL_ok hc hl hn
      have k4 : 0 < (roundL c l).length := by omega
      replace hnl := And.intro hnl (And.intro he (And.intro e1 (And.intro k1 (And.intro (eq_false hn) (And.intro (eq_true k4) (eq_true k2))))))
      repeat' (first|(refine goK (by assumption) ?_; iterate 4 (try clear hK K))|(refine tri_seqk fun K hK => ?_)|((first|refine tri_region hE rfl ?_|refine tri_ret ?_); simp +contextual only [hnl, ↓kN, ↓kP, ↓kG, ↓qN, ↓qP, ↓qG, push_cast, Int.reduceEq, Int.reduceLT, Int.reduceLE, Int.reduceNeg, Nat.reduceLT, Nat.reduceLeDiff, Int.reduceToNat, Int.cast_ofNat_Int, Nat.reduceBEq, Nat.reduceMul, Nat.reduceEqDiff, reduceCtorEq, Nat.reduceAdd])|refine tri_block ?_|((first|refine tri_skip ?_|refine tri_exit ?_); simp only [thenQ, blockQ, if_true, if_false, Nat.reduceEqDiff, reduceCtorEq])|(refine tri_cond (by rfl) (fun hb => ?_) (fun hb => ?_) <;> (try simp only [decide_eq_true_eq, decide_eq_false_iff_not, Bool.not_eq_true', Bool.not_eq_false', reduceCtorEq, Bool.true_eq_false, Bool.false_eq_true] at hb) <;> (try omega))|refine tri_unk (by rfl) ?_ ?_|refine And.intro (by first|omega|(unfold InR; omega)|assumption|decide|exact ⟨_, _, rfl⟩) ?_|(refine ⟨fun hc => ?_, fun hc => ?_⟩)|(intro hc; try omega))
  · have e1 : roundR c l = [] := if_neg he
    replace hnl := And.intro hnl (And.intro (eq_false he) e1)
    repeat' (first|(refine goK (by assumption) ?_; iterate 4 (try clear hK K))|(refine tri_seqk fun K hK => ?_)|((first|refine tri_region hE rfl ?_|refine tri_ret ?_); simp +contextual only [hnl, ↓kN, ↓kP, ↓kG, ↓qN, ↓qP, ↓qG, push_cast, Int.reduceEq, Int.reduceLT, Int.reduceLE, Int.reduceNeg, Nat.reduceLT, Nat.reduceLeDiff, Int.reduceToNat, Int.cast_ofNat_Int, Nat.reduceBEq, Nat.reduceMul, Nat.reduceEqDiff, reduceCtorEq, Nat.reduceAdd])|refine tri_block ?_|((first|refine tri_skip ?_|refine tri_exit ?_); simp only [thenQ, blockQ, if_true, if_false, Nat.reduceEqDiff, reduceCtorEq])|(refine tri_cond (by rfl) (fun hb => ?_) (fun hb => ?_) <;> (try simp only [decide_eq_true_eq, decide_eq_false_iff_not, Bool.not_eq_true', Bool.not_eq_false', reduceCtorEq, Bool.true_eq_false, Bool.false_eq_true] at hb) <;> (try omega))|refine tri_unk (by rfl) ?_ ?_|refine And.intro (by first|omega|(unfold InR; omega)|assumption|decide|exact ⟨_, _, rfl⟩) ?_|(refine ⟨fun hc => ?_, fun hc => ?_⟩)|(intro hc; try omega))
end Go.Proofs.Ytaldpinkkgdklaa
