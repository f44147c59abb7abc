/- What loose plans move and cost, by the document; the statement LoosePlans. Conditions: in each contract. -/
import Derived.Test.YtogopoiohckpdaeSu
namespace Go.Proofs.Ytogopoiohckpdae
open Go.RowKit Go.VS Go.OT Go.LC
set_option linter.unusedSimpArgs false
set_option linter.unusedVariables false

def movE (p : List (List Int)) : Int := if errPlan p = 0 then movK p p.length else 0
@[push_cast] def movECon : Con := ⟨[.dat (.sl (.sl .int))], fun _ => True, fun (x : List (List Int) × Unit) => { res := [.val .int (movE x.1), .val .int (errPlan x.1)] }⟩
theorem lMov_spec : FnSpec Try.prog 13 movECon := by
  refine FnSpec.of_tri' (E := know [(35, planCon), (33, movCon)] [] [] []) (know_ok (all_cons plan_spec (all_cons mov_spec all_nil)) all_nil all_nil) Try.func13 rfl rfl (by kernel_rfl) ?_
  intro C x hE hnl hfit hpre
  simp only [Try.ntmps13, Try.results13, maxLen, Nat.reduceSub, Nat.reducePow, Nat.reduceAdd, Int.cast_ofNat_Int, push_cast] at hnl hfit hpre ⊢
  obtain ⟨(p : List (List Int)), _⟩ := x
  dsimp only at hfit hpre ⊢
  by_cases he : errPlan p = 0
  · have hp := errPlan_in he
    have e1 : movE p = movK p p.length := if_pos he
    replace hnl := And.intro hnl (And.intro he (And.intro e1 hp))
    repeat' (first|(refine goK (by assumption) ?_; iterate 4 (try clear hK K))|(refine tri_seqk fun K hK => ?_)|((first|refine tri_region hE rfl ?_|refine tri_ret ?_|((first|refine tri_drawP hE 1 rfl rfl (by kernel_rfl) ?_|refine tri_drawP hE 2 rfl rfl (by kernel_rfl) ?_|refine tri_drawP hE 3 rfl rfl (by kernel_rfl) ?_|refine tri_drawP hE 4 rfl rfl (by kernel_rfl) ?_); simp only [List.length_cons, List.length_nil, Nat.reduceAdd, Nat.reduceSub, List.take_succ_cons, List.take_zero, List.drop_succ_cons, List.drop_zero])); simp +contextual only [hnl, ↓kN, ↓kP, ↓kG, ↓qN, ↓qP, ↓qG, push_cast, Int.reduceEq, Int.reduceLT, Int.reduceLE, Int.reduceNeg, Nat.reduceLT, Nat.reduceLeDiff, Int.reduceToNat, Int.cast_ofNat_Int, Nat.reduceBEq, Nat.reduceMul, Nat.reduceEqDiff, reduceCtorEq, Nat.reduceAdd])|refine tri_block ?_|((first|refine tri_skip ?_|refine tri_exit ?_); simp only [thenQ, blockQ, if_true, if_false, Nat.reduceEqDiff, reduceCtorEq])|(refine tri_cond (by rfl) (fun hb => ?_) (fun hb => ?_) <;> (try simp only [decide_eq_true_eq, decide_eq_false_iff_not, Bool.not_eq_true', Bool.not_eq_false', reduceCtorEq, Bool.true_eq_false, Bool.false_eq_true] at hb) <;> (try omega))|refine tri_unk (by rfl) ?_ ?_|refine And.intro (by first|omega|(unfold InR; omega)|assumption|decide|exact ⟨_, _, rfl⟩) ?_|(refine ⟨fun hc => ?_, fun hc => ?_⟩)|(intro hc; try omega))
    all_goals skip
  · have e1 : movE p = 0 := if_neg he
    replace hnl := And.intro hnl (And.intro (eq_false he) e1)
    repeat' (first|(refine goK (by assumption) ?_; iterate 4 (try clear hK K))|(refine tri_seqk fun K hK => ?_)|((first|refine tri_region hE rfl ?_|refine tri_ret ?_|((first|refine tri_drawP hE 1 rfl rfl (by kernel_rfl) ?_|refine tri_drawP hE 2 rfl rfl (by kernel_rfl) ?_|refine tri_drawP hE 3 rfl rfl (by kernel_rfl) ?_|refine tri_drawP hE 4 rfl rfl (by kernel_rfl) ?_); simp only [List.length_cons, List.length_nil, Nat.reduceAdd, Nat.reduceSub, List.take_succ_cons, List.take_zero, List.drop_succ_cons, List.drop_zero])); simp +contextual only [hnl, ↓kN, ↓kP, ↓kG, ↓qN, ↓qP, ↓qG, push_cast, Int.reduceEq, Int.reduceLT, Int.reduceLE, Int.reduceNeg, Nat.reduceLT, Nat.reduceLeDiff, Int.reduceToNat, Int.cast_ofNat_Int, Nat.reduceBEq, Nat.reduceMul, Nat.reduceEqDiff, reduceCtorEq, Nat.reduceAdd])|refine tri_block ?_|((first|refine tri_skip ?_|refine tri_exit ?_); simp only [thenQ, blockQ, if_true, if_false, Nat.reduceEqDiff, reduceCtorEq])|(refine tri_cond (by rfl) (fun hb => ?_) (fun hb => ?_) <;> (try simp only [decide_eq_true_eq, decide_eq_false_iff_not, Bool.not_eq_true', Bool.not_eq_false', reduceCtorEq, Bool.true_eq_false, Bool.false_eq_true] at hb) <;> (try omega))|refine tri_unk (by rfl) ?_ ?_|refine And.intro (by first|omega|(unfold InR; omega)|assumption|decide|exact ⟨_, _, rfl⟩) ?_|(refine ⟨fun hc => ?_, fun hc => ?_⟩)|(intro hc; try omega))
    all_goals skip
end Go.Proofs.Ytogopoiohckpdae
