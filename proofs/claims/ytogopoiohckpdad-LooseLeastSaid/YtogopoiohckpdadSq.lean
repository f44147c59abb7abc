/- The document's least and parts, by the program. Conditions: in each contract. -/
import Derived.Test.YtogopoiohckpdadSp
namespace Go.Proofs.Ytogopoiohckpdad
open Go.RowKit Go.VS Go.OT Go.LC
set_option linter.unusedSimpArgs false
set_option linter.unusedVariables false

theorem least_dum {a b : List Int} {c : List (List Int)} {w : Int} (hf : ForOK a b c) (hw : 0 ≤ w ∧ w ≤ 99) : DumP a b c 0 ∧ spend (dumC c w 0) (solveV (dumA a b 0) (dumA b a 0) (dumC c w 0)) = looseV a b c w := by
  have hd : DumP a b c 0 := ⟨hf, by omega, by have := MC.sums hf; omega⟩
  obtain ⟨h1, h2⟩ := dum_best hd hw (e := 0) (by omega)
  exact ⟨hd, dump_loose hf.mc w h1 h2⟩
theorem r8least_spec : FnSpec Try.prog 20 lleastCon := by
  refine FnSpec.of_tri' (E := know [(41, dumCon), (40, qbestCon)] [] [] []) (know_ok (all_cons dum_spec (all_cons qbest_spec all_nil)) all_nil all_nil) Try.func20 rfl rfl (by kernel_rfl) ?_
  intro C x hE hnl hfit hpre
  simp only [Try.ntmps20, Try.results20, maxLen, Nat.reduceSub, Nat.reducePow, Nat.reduceAdd, Int.cast_ofNat_Int, push_cast] at hnl hfit hpre ⊢
  obtain ⟨(a : List Int), (b : List Int), (c : List (List Int)), (w : Int), _⟩ := x
  dsimp only at hfit hpre ⊢
  obtain ⟨hf, hw⟩ := hpre
  obtain ⟨h1, h2⟩ := least_dum hf hw
  have h3 := dum_mq h1 hw (e := 0) (by omega)
  replace hnl := And.intro hnl (And.intro h1 (And.intro h2 h3))
  repeat' (first|(refine goK (by assumption) ?_; iterate 4 (try clear hK K))|(refine tri_seqk fun K hK => ?_)|((first|refine tri_region hE rfl ?_|refine tri_ret ?_|((first|refine tri_drawP hE 1 rfl rfl (by kernel_rfl) ?_|refine tri_drawP hE 2 rfl rfl (by kernel_rfl) ?_|refine tri_drawP hE 3 rfl rfl (by kernel_rfl) ?_|refine tri_drawP hE 4 rfl rfl (by kernel_rfl) ?_); simp only [List.length_cons, List.length_nil, Nat.reduceAdd, Nat.reduceSub, List.take_succ_cons, List.take_zero, List.drop_succ_cons, List.drop_zero])); simp +contextual only [hnl, ↓kN, ↓kP, ↓kG, ↓qN, ↓qP, ↓qG, push_cast, Int.reduceEq, Int.reduceLT, Int.reduceLE, Int.reduceNeg, Nat.reduceLT, Nat.reduceLeDiff, Int.reduceToNat, Int.cast_ofNat_Int, Nat.reduceBEq, Nat.reduceMul, Nat.reduceEqDiff, reduceCtorEq, Nat.reduceAdd])|refine tri_block ?_|((first|refine tri_skip ?_|refine tri_exit ?_); simp only [thenQ, blockQ, if_true, if_false, Nat.reduceEqDiff, reduceCtorEq])|(refine tri_cond (by rfl) (fun hb => ?_) (fun hb => ?_) <;> (try simp only [decide_eq_true_eq, decide_eq_false_iff_not, Bool.not_eq_true', Bool.not_eq_false', reduceCtorEq, Bool.true_eq_false, Bool.false_eq_true] at hb) <;> (try omega))|refine tri_unk (by rfl) ?_ ?_|refine And.intro (by first|omega|(unfold InR; omega)|assumption|decide|exact ⟨_, _, rfl⟩) ?_|(refine ⟨fun hc => ?_, fun hc => ?_⟩)|(intro hc; try omega))
  all_goals skip

end Go.Proofs.Ytogopoiohckpdad
