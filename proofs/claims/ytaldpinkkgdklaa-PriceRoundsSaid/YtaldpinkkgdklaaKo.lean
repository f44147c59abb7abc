/- The statement PriceRounds: for every table, links and exchange. No condition. -/
import Derived.Test.YtaldpinkkgdklaaKk
import Derived.Test.YtaldpinkkgdklaaGv
import Derived.Test.YtaldpinkkgdklaaKe
namespace Go.Proofs.Ytaldpinkkgdklaa
open Go.RowKit Go.VS Go.OT Go.LC
set_option linter.unusedSimpArgs false
set_option linter.unusedVariables false

theorem errRound_ok {c : List (List Int)} {l r : List Pr} (h : errRound c l r = 0) : errLinks c l = 0 ∧ (∀ x ∈ r, x ∈ l) ∧ roundV c l r = gainK c r r.length := by
  by_cases h1 : errLinks c l = 0
  · by_cases h2 : r.length < 2 ∨ (r.any fun x => !decide (x ∈ l)) = true
    · rw [(errRound_4 h1 h2).1] at h; omega
    · refine ⟨h1, fun x hx => ?_, if_pos h⟩
      have := any_false (fun h3 => h2 (.inr h3)) hx
      simpa using this
  · rw [(errRound_l h1).1] at h; exact absurd h h1

@[push_cast] def trueRounds : Con := ⟨[.dat (.sl (.sl .int)), .dat (.sl (.prod .int .int)), .dat (.sl (.prod .int .int))], fun _ => True, fun _ => { res := [.val .bool true] }⟩

theorem rounds_fn : FnSpec Try.prog 8 trueRounds := by
  refine FnSpec.of_tri' (E := know [(17, wideCon), (18, knownCon), (45, roundCon), (46, roundCon), (47, isCon)] [] [] []) (know_ok (all_cons wide_spec (all_cons known_spec (all_cons pround_spec (all_cons qround_spec (all_cons pis_spec all_nil))))) all_nil all_nil) Try.func8 rfl rfl (by kernel_rfl) ?_
  intro C x hE hnl hfit hpre
  simp only [Try.ntmps8, Try.results8, maxLen, Nat.reduceSub, Nat.reducePow, Nat.reduceAdd, Int.cast_ofNat_Int, push_cast] at hnl hfit hpre ⊢
  obtain ⟨(c : List (List Int)), (l : List Pr), (r : List Pr), _⟩ := x
  dsimp only at hfit hpre ⊢
  by_cases h : errRound c l r = 0
  · obtain ⟨h1, h2, h3⟩ := errRound_ok h
    obtain ⟨hc, hl⟩ := errLinks_ok h1
    have h4 : CycP c l → ¬ 0 < roundV c l r := fun hn => by
      have := cyc_gain hc hl hn h2
      omega
    by_cases hn : CycP c l
    · have h5 := h4 hn
      have e : decide (errLinks c l = 0 ∧ CycP c l) = true := decide_eq_true ⟨h1, hn⟩
      replace hnl := And.intro hnl (And.intro h (And.intro h1 (eq_true hn)))
      repeat' (first|(refine goK (by assumption) ?_; iterate 4 (try clear hK K))|(refine tri_seqk fun K hK => ?_)|((first|refine tri_region hE rfl ?_|refine tri_ret ?_); simp +contextual only [hnl, ↓kN, ↓kP, ↓kG, ↓qN, ↓qP, ↓qG, push_cast, Int.reduceEq, Int.reduceLT, Int.reduceLE, Int.reduceNeg, Nat.reduceLT, Nat.reduceLeDiff, Int.reduceToNat, Int.cast_ofNat_Int, Nat.reduceBEq, Nat.reduceMul, Nat.reduceEqDiff, reduceCtorEq, Nat.reduceAdd])|refine tri_block ?_|((first|refine tri_skip ?_|refine tri_exit ?_); simp only [thenQ, blockQ, if_true, if_false, Nat.reduceEqDiff, reduceCtorEq])|(refine tri_cond (by rfl) (fun hb => ?_) (fun hb => ?_) <;> (try simp only [decide_eq_true_eq, decide_eq_false_iff_not, Bool.not_eq_true', Bool.not_eq_false', reduceCtorEq, Bool.true_eq_false, Bool.false_eq_true] at hb) <;> (try omega))|refine tri_unk (by rfl) ?_ ?_|refine And.intro (by first|omega|(unfold InR; omega)|assumption|decide|exact ⟨_, _, rfl⟩) ?_|(refine ⟨fun hc => ?_, fun hc => ?_⟩)|(intro hc; try omega))
      all_goals exact absurd hc h5
    · replace hnl := And.intro hnl (And.intro h (And.intro h1 (eq_false hn)))
      repeat' (first|(refine goK (by assumption) ?_; iterate 4 (try clear hK K))|(refine tri_seqk fun K hK => ?_)|((first|refine tri_region hE rfl ?_|refine tri_ret ?_); simp +contextual only [hnl, ↓kN, ↓kP, ↓kG, ↓qN, ↓qP, ↓qG, push_cast, Int.reduceEq, Int.reduceLT, Int.reduceLE, Int.reduceNeg, Nat.reduceLT, Nat.reduceLeDiff, Int.reduceToNat, Int.cast_ofNat_Int, Nat.reduceBEq, Nat.reduceMul, Nat.reduceEqDiff, reduceCtorEq, Nat.reduceAdd])|refine tri_block ?_|((first|refine tri_skip ?_|refine tri_exit ?_); simp only [thenQ, blockQ, if_true, if_false, Nat.reduceEqDiff, reduceCtorEq])|(refine tri_cond (by rfl) (fun hb => ?_) (fun hb => ?_) <;> (try simp only [decide_eq_true_eq, decide_eq_false_iff_not, Bool.not_eq_true', Bool.not_eq_false', reduceCtorEq, Bool.true_eq_false, Bool.false_eq_true] at hb) <;> (try omega))|refine tri_unk (by rfl) ?_ ?_|refine And.intro (by first|omega|(unfold InR; omega)|assumption|decide|exact ⟨_, _, rfl⟩) ?_|(refine ⟨fun hc => ?_, fun hc => ?_⟩)|(intro hc; try omega))
  · replace hnl := And.intro hnl (eq_false h)
    repeat' (first|(refine goK (by assumption) ?_; iterate 4 (try clear hK K))|(refine tri_seqk fun K hK => ?_)|((first|refine tri_region hE rfl ?_|refine tri_ret ?_); simp +contextual only [hnl, ↓kN, ↓kP, ↓kG, ↓qN, ↓qP, ↓qG, push_cast, Int.reduceEq, Int.reduceLT, Int.reduceLE, Int.reduceNeg, Nat.reduceLT, Nat.reduceLeDiff, Int.reduceToNat, Int.cast_ofNat_Int, Nat.reduceBEq, Nat.reduceMul, Nat.reduceEqDiff, reduceCtorEq, Nat.reduceAdd])|refine tri_block ?_|((first|refine tri_skip ?_|refine tri_exit ?_); simp only [thenQ, blockQ, if_true, if_false, Nat.reduceEqDiff, reduceCtorEq])|(refine tri_cond (by rfl) (fun hb => ?_) (fun hb => ?_) <;> (try simp only [decide_eq_true_eq, decide_eq_false_iff_not, Bool.not_eq_true', Bool.not_eq_false', reduceCtorEq, Bool.true_eq_false, Bool.false_eq_true] at hb) <;> (try omega))|refine tri_unk (by rfl) ?_ ?_|refine And.intro (by first|omega|(unfold InR; omega)|assumption|decide|exact ⟨_, _, rfl⟩) ?_|(refine ⟨fun hc => ?_, fun hc => ?_⟩)|(intro hc; try omega))
end Go.Proofs.Ytaldpinkkgdklaa
