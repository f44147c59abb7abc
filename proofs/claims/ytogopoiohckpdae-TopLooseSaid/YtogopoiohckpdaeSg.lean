/- Worths at a waste, the chapter's examples. No condition. -/
import Derived.Test.YtogopoiohckpdaeSf
namespace Go.Proofs.Ytogopoiohckpdae
open Go.RowKit Go.VS Go.OT
set_option linter.unusedSimpArgs false
set_option linter.unusedVariables false

theorem wpre_loose {a b : List Int} {c : List (List Int)} {w : Int} {p : Prices} (h : errWd a b c w = 0) (h2 : errPrL c w p = 0) : WPre a b p := by
  have hf := (errWd_ok h).1
  have hm := hf.mc
  unfold errPrL at h2
  split at h2
  · split at h2
    · rename_i h3
      obtain ⟨k1, k2, k3⟩ := errPr_ok h3
      obtain ⟨r1, r2⟩ := k2.row
      obtain ⟨c1, c2⟩ := k2.col
      have e1 := hf.rows
      have e2 := hf.cols
      have := hm.a5
      have := hm.b5
      exact ⟨by omega, by omega, by omega, by omega, fun i hi => hm.ha.at hi, fun i hi => hm.hb.at hi, fun i hi => r2 i (by omega), fun i hi => c2 i (by omega)⟩
    · rename_i h3; exact absurd h2 h3
  · omega

@[push_cast] def lWorthCon : Con := ⟨[.dat (.sl .int), .dat (.sl .int), .dat (.sl (.sl .int)), .dat .int, .dat (.prod (.sl .int) (.sl .int))], fun _ => True, fun (x : List Int × List Int × List (List Int) × Int × Prices × Unit) => { res := [.val .int (worthL x.1 x.2.1 x.2.2.1 x.2.2.2.1 x.2.2.2.2.1), .val .int (errWL x.1 x.2.1 x.2.2.1 x.2.2.2.1 x.2.2.2.2.1)] }⟩
theorem lWorth_spec : FnSpec Try.prog 15 lWorthCon := by
  refine FnSpec.of_tri' (E := know [(17, wastedCon), (30, lprCon), (36, orCon), (34, worthCon)] [] [] []) (know_ok (all_cons wasted_spec (all_cons lpr_spec (all_cons or_spec (all_cons lworth_spec all_nil)))) all_nil all_nil) Try.func15 rfl rfl (by kernel_rfl) ?_
  intro C x hE hnl hfit hpre
  simp only [Try.ntmps15, Try.results15, maxLen, Nat.reduceSub, Nat.reducePow, Nat.reduceAdd, Int.cast_ofNat_Int, push_cast] at hnl hfit hpre ⊢
  obtain ⟨(a : List Int), (b : List Int), (c : List (List Int)), (w : Int), ⟨(u : List Int), (v : List Int)⟩, _⟩ := x
  dsimp only at hfit hpre ⊢
  have h0 : orV [errWd a b c w, errPrL c w (u, v)] = errWL a b c w (u, v) := orV_two
  by_cases he : errWL a b c w (u, v) = 0
  · have hw : errWd a b c w = 0 := by
      apply Classical.byContradiction
      intro h
      rw [errWL, if_neg h] at he
      exact h he
    have hp : errPrL c w (u, v) = 0 := by rw [errWL, if_pos hw] at he; exact he
    have h3 : worthL a b c w (u, v) = worthV a b (u, v) := if_pos he
    have h4 := wpre_loose hw hp
    replace hnl := And.intro hnl (And.intro h0 (And.intro he (And.intro h3 h4)))
    repeat' (first|(refine goK (by assumption) ?_; iterate 4 (try clear hK K))|(refine tri_seqk fun K hK => ?_)|((first|refine tri_region hE rfl ?_|refine tri_ret ?_|((first|refine tri_drawP hE 1 rfl rfl (by kernel_rfl) ?_|refine tri_drawP hE 2 rfl rfl (by kernel_rfl) ?_|refine tri_drawP hE 3 rfl rfl (by kernel_rfl) ?_|refine tri_drawP hE 4 rfl rfl (by kernel_rfl) ?_); simp only [List.length_cons, List.length_nil, Nat.reduceAdd, Nat.reduceSub, List.take_succ_cons, List.take_zero, List.drop_succ_cons, List.drop_zero])); simp +contextual only [hnl, ↓kN, ↓kP, ↓kG, ↓qN, ↓qP, ↓qG, push_cast, Int.reduceEq, Int.reduceLT, Int.reduceLE, Int.reduceNeg, Nat.reduceLT, Nat.reduceLeDiff, Int.reduceToNat, Int.cast_ofNat_Int, Nat.reduceBEq, Nat.reduceMul, Nat.reduceEqDiff, reduceCtorEq, Nat.reduceAdd])|refine tri_block ?_|((first|refine tri_skip ?_|refine tri_exit ?_); simp only [thenQ, blockQ, if_true, if_false, Nat.reduceEqDiff, reduceCtorEq])|(refine tri_cond (by rfl) (fun hb => ?_) (fun hb => ?_) <;> (try simp only [decide_eq_true_eq, decide_eq_false_iff_not, Bool.not_eq_true', Bool.not_eq_false', reduceCtorEq, Bool.true_eq_false, Bool.false_eq_true] at hb) <;> (try omega))|refine tri_unk (by rfl) ?_ ?_|refine And.intro (by first|omega|(unfold InR; omega)|assumption|decide|exact ⟨_, _, rfl⟩) ?_|(refine ⟨fun hc => ?_, fun hc => ?_⟩)|(intro hc; try omega))
    all_goals skip
  · have h3 : worthL a b c w (u, v) = 0 := if_neg he
    replace hnl := And.intro hnl (And.intro h0 (And.intro h3 (eq_false he)))
    repeat' (first|(refine goK (by assumption) ?_; iterate 4 (try clear hK K))|(refine tri_seqk fun K hK => ?_)|((first|refine tri_region hE rfl ?_|refine tri_ret ?_|((first|refine tri_drawP hE 1 rfl rfl (by kernel_rfl) ?_|refine tri_drawP hE 2 rfl rfl (by kernel_rfl) ?_|refine tri_drawP hE 3 rfl rfl (by kernel_rfl) ?_|refine tri_drawP hE 4 rfl rfl (by kernel_rfl) ?_); simp only [List.length_cons, List.length_nil, Nat.reduceAdd, Nat.reduceSub, List.take_succ_cons, List.take_zero, List.drop_succ_cons, List.drop_zero])); simp +contextual only [hnl, ↓kN, ↓kP, ↓kG, ↓qN, ↓qP, ↓qG, push_cast, Int.reduceEq, Int.reduceLT, Int.reduceLE, Int.reduceNeg, Nat.reduceLT, Nat.reduceLeDiff, Int.reduceToNat, Int.cast_ofNat_Int, Nat.reduceBEq, Nat.reduceMul, Nat.reduceEqDiff, reduceCtorEq, Nat.reduceAdd])|refine tri_block ?_|((first|refine tri_skip ?_|refine tri_exit ?_); simp only [thenQ, blockQ, if_true, if_false, Nat.reduceEqDiff, reduceCtorEq])|(refine tri_cond (by rfl) (fun hb => ?_) (fun hb => ?_) <;> (try simp only [decide_eq_true_eq, decide_eq_false_iff_not, Bool.not_eq_true', Bool.not_eq_false', reduceCtorEq, Bool.true_eq_false, Bool.false_eq_true] at hb) <;> (try omega))|refine tri_unk (by rfl) ?_ ?_|refine And.intro (by first|omega|(unfold InR; omega)|assumption|decide|exact ⟨_, _, rfl⟩) ?_|(refine ⟨fun hc => ?_, fun hc => ?_⟩)|(intro hc; try omega))
    all_goals skip

end Go.Proofs.Ytogopoiohckpdae
