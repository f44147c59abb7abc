/- The document's least. Conditions: in each contract. -/
import Derived.Test.YtogopoiohckpdadHf
import Derived.Test.YtogopoiohckpdadHp
namespace Go.Proofs.Ytogopoiohckpdad
open Go.RowKit Go.VS Go.OT Go.LC
set_option linter.unusedSimpArgs false
set_option linter.unusedVariables false

theorem fit_solve {a b : List Int} {c : List (List Int)} (h : MQ a b c) : Fit c (solveV a b c) := ⟨_, _, ⟨by have := h.a5; omega, by have := h.b5; omega⟩, h.hc, (solve_ok h).1.tab⟩
@[push_cast] def qbestCon : Con := ⟨[.dat (.sl .int), .dat (.sl .int), .dat (.sl (.sl .int))], fun (x : SolArgs) => MQ x.1 x.2.1 x.2.2.1, fun (x : SolArgs) => { res := [.val .int (spend x.2.2.1 (solveV x.1 x.2.1 x.2.2.1))] }⟩

theorem qbest_spec : FnSpec Try.prog 40 qbestCon := by
  refine FnSpec.of_tri' (E := know [(64, solCon), (50, spendCon)] [] [] []) (know_ok (all_cons sol_spec (all_cons spent_spec all_nil)) all_nil all_nil) Try.func40 rfl rfl (by kernel_rfl) ?_
  intro C x hE hnl hfit hpre
  simp only [Try.ntmps40, Try.results40, maxLen, Nat.reduceSub, Nat.reducePow, Nat.reduceAdd, Int.cast_ofNat_Int, push_cast] at hnl hfit hpre ⊢
  obtain ⟨(a : List Int), (b : List Int), (c : List (List Int)), _⟩ := x
  dsimp only at hfit hpre ⊢
  have h1 := fit_solve hpre
  repeat' (first|(refine goK (by assumption) ?_; iterate 4 (try clear hK K))|(refine tri_seqk fun K hK => ?_)|((first|refine tri_region hE rfl ?_|refine tri_ret ?_); simp +contextual only [hnl, ↓kN, ↓kP, ↓kG, ↓qN, ↓qP, ↓qG, push_cast, Int.reduceEq, Int.reduceLT, Int.reduceLE, Int.reduceNeg, Nat.reduceLT, Nat.reduceLeDiff, Int.reduceToNat, Int.cast_ofNat_Int, Nat.reduceBEq, Nat.reduceMul, Nat.reduceEqDiff, reduceCtorEq, Nat.reduceAdd])|refine tri_block ?_|((first|refine tri_skip ?_|refine tri_exit ?_); simp only [thenQ, blockQ, if_true, if_false, Nat.reduceEqDiff, reduceCtorEq])|(refine tri_cond (by rfl) (fun hb => ?_) (fun hb => ?_) <;> (try simp only [decide_eq_true_eq, decide_eq_false_iff_not, Bool.not_eq_true', Bool.not_eq_false', reduceCtorEq, Bool.true_eq_false, Bool.false_eq_true] at hb) <;> (try omega))|refine tri_unk (by rfl) ?_ ?_|refine And.intro (by first|omega|(unfold InR; omega)|assumption|decide|exact ⟨_, _, rfl⟩) ?_|(refine ⟨fun hc => ?_, fun hc => ?_⟩)|(intro hc; try omega))
  all_goals skip

/-! ### Both leasts are equal -/
section
variable {a b : List Int} {c : List (List Int)}
end

end Go.Proofs.Ytogopoiohckpdad
