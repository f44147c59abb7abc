/- Which plans and prices prove each other. Conditions: in each contract. -/
import Derived.Test.YtpfkipccbgdkjacGn
import Derived.Test.YtpfkipccbgdkjacHd
namespace Go.Proofs.Ytpfkipccbgdkjac
open Go.RowKit Go.VS
set_option linter.unusedSimpArgs false
set_option linter.unusedVariables false

def TightP (c t : List (List Int)) (p : Prices) : Prop := ∀ i, i < t.length → ∀ j, j < wid t → 0 < (t.getD i []).getD j 0 → p.1.getD i 0 + p.2.getD j 0 = (c.getD i []).getD j 0
instance (c t : List (List Int)) (p : Prices) : Decidable (TightP c t p) := by unfold TightP; infer_instance
def errBest (a b : List Int) (c t : List (List Int)) (p : Prices) : Int :=
  if ¬ errFits a b c = 0 then errFits a b c else if ¬ errCheck a b t = 0 then 7 else if ¬ errPr c p = 0 then errPr c p else if TightP c t p then 0 else 8
section
variable {a b : List Int} {c t : List (List Int)} {p : Prices}
theorem errBest_f (h : ¬ errFits a b c = 0) : errBest a b c t p = errFits a b c := if_pos h
theorem errBest_7 (h : errFits a b c = 0) (h2 : ¬ errCheck a b t = 0) : errBest a b c t p = 7 := by rw [errBest, if_neg (fun h3 => h3 h), if_pos h2]
theorem errBest_p (h : errFits a b c = 0) (h2 : errCheck a b t = 0) (h3 : ¬ errPr c p = 0) : errBest a b c t p = errPr c p := by rw [errBest, if_neg (fun h4 => h4 h), if_neg (fun h4 => h4 h2), if_pos h3]
theorem errBest_8 (h : errFits a b c = 0) (h2 : errCheck a b t = 0) (h3 : errPr c p = 0) (h4 : ¬ TightP c t p) : errBest a b c t p = 8 := by rw [errBest, if_neg (fun h4 => h4 h), if_neg (fun h4 => h4 h2), if_neg (fun h4 => h4 h3), if_neg h4]
theorem errBest_0 (h : errFits a b c = 0) (h2 : errCheck a b t = 0) (h3 : errPr c p = 0) (h4 : TightP c t p) : errBest a b c t p = 0 := by rw [errBest, if_neg (fun h4 => h4 h), if_neg (fun h4 => h4 h2), if_neg (fun h4 => h4 h3), if_pos h4]
/-- What a right plan is. -/
theorem errCheck_ok (h : errCheck a b t = 0) : okMass a = true ∧ okMass b = true ∧ InPlan t ∧ lsum a = lsum b ∧ rowsP t = a ∧ colsP t = b := by
  unfold errCheck at h
  split at h
  · split at h
    · split at h
      · split at h
        · split at h
          · rename_i h1 h2 h3 h4 h5
            exact ⟨h1, h2, okPlan_iff.1 h3, h4, h5.1, h5.2⟩
          · omega
        · omega
      · omega
    · omega
  · omega
theorem errCheck_0 (h1 : okMass a = true) (h2 : okMass b = true) (h3 : InPlan t) (h4 : lsum a = lsum b) (h5 : rowsP t = a) (h6 : colsP t = b) : errCheck a b t = 0 := by
  unfold errCheck
  rw [if_pos h1, if_pos h2, if_pos (okPlan_iff.2 h3), if_pos h4, if_pos ⟨h5, h6⟩]
theorem best_dims (h : errFits a b c = 0) (h2 : errCheck a b t = 0) : t.length = c.length ∧ wid t = wid c ∧ InTab 0 99 c ∧ InPlan t := by
  obtain ⟨h3, _⟩ := errFits_ok h
  obtain ⟨_, _, h4, _, h5, h6⟩ := errCheck_ok h2
  have k1 : (rowsP t).length = t.length := by simp [rowsP]
  have k2 : (colsP t).length = wid t := tbl_len _ _
  rw [h5] at k1
  rw [h6] at k2
  have k3 := h3.rows
  have k4 := h3.cols
  exact ⟨by omega, by omega, h3.hc, h4⟩
end

@[push_cast] def bestBCon : Con := ⟨[.dat (.sl .int), .dat (.sl .int), .dat (.sl (.sl .int)), .dat (.sl (.sl .int)), .dat (.prod (.sl .int) (.sl .int))], fun _ => True, fun (x : List Int × List Int × List (List Int) × List (List Int) × Prices × Unit) => { res := [.val .int (errBest x.1 x.2.1 x.2.2.1 x.2.2.2.1 x.2.2.2.2.1)] }⟩

theorem pbest_spec : FnSpec Try.prog 15 bestBCon := by
  refine FnSpec.of_tri' (E := know [(21, fitsCon), (10, checkCon), (37, prCon)] [] [] []) (know_ok (all_cons pfits_spec (all_cons check_spec (all_cons ppr_spec all_nil))) all_nil all_nil) Try.func15 rfl rfl (by kernel_rfl) ?_
  intro C x hE hnl hfit hpre
  simp only [Try.ntmps15, Try.results15, maxLen, Nat.reduceSub, Nat.reducePow, Nat.reduceAdd, Int.cast_ofNat_Int, push_cast] at hnl hfit hpre ⊢
  obtain ⟨(a : List Int), (b : List Int), (c : List (List Int)), (t : List (List Int)), ⟨(u : List Int), (v : List Int)⟩, _⟩ := x
  dsimp only at hfit hpre ⊢
  by_cases h1 : errFits a b c = 0
  · by_cases h2 : errCheck a b t = 0
    · by_cases h3 : errPr c (u, v) = 0
      · obtain ⟨d1, d2, d3, d4⟩ := best_dims h1 h2
        obtain ⟨_, h5, _⟩ := errPr_ok h3
        obtain ⟨hul, hua⟩ := h5.row
        obtain ⟨hvl, hva⟩ := h5.col
        dsimp only at hul hua hvl hva
        replace hnl := And.intro hnl (And.intro h1 (And.intro h2 h3))
        repeat' (first|(refine goK (by assumption) ?_; iterate 4 (try clear hK K))|(refine tri_seqk fun K hK => ?_)|((first|refine tri_region hE rfl ?_|refine tri_ret ?_|((first|refine tri_drawP hE 1 rfl rfl (by kernel_rfl) ?_|refine tri_drawP hE 2 rfl rfl (by kernel_rfl) ?_|refine tri_drawP hE 3 rfl rfl (by kernel_rfl) ?_|refine tri_drawP hE 4 rfl rfl (by kernel_rfl) ?_); simp only [List.length_cons, List.length_nil, Nat.reduceAdd, Nat.reduceSub, List.take_succ_cons, List.take_zero, List.drop_succ_cons, List.drop_zero])); simp +contextual only [hnl, ↓kN, ↓kP, ↓kG, ↓qN, ↓qP, ↓qG, push_cast, Int.reduceEq, Int.reduceLT, Int.reduceLE, Int.reduceNeg, Nat.reduceLT, Nat.reduceLeDiff, Int.reduceToNat, Int.cast_ofNat_Int, Nat.reduceBEq, Nat.reduceMul, Nat.reduceEqDiff, reduceCtorEq, Nat.reduceAdd])|refine tri_block ?_|((first|refine tri_skip ?_|refine tri_exit ?_); simp only [thenQ, blockQ, if_true, if_false, Nat.reduceEqDiff, reduceCtorEq])|(refine tri_cond (by rfl) (fun hb => ?_) (fun hb => ?_) <;> (try simp only [decide_eq_true_eq, decide_eq_false_iff_not, Bool.not_eq_true', Bool.not_eq_false', reduceCtorEq, Bool.true_eq_false, Bool.false_eq_true] at hb) <;> (try omega))|refine tri_unk (by rfl) ?_ ?_|refine And.intro (by first|omega|(unfold InR; omega)|assumption|decide|exact ⟨_, _, rfl⟩) ?_|(refine ⟨fun hc => ?_, fun hc => ?_⟩)|(intro hc; try omega))
        refine tri_loopI (fun k : Nat => AS.of [(2, .one (.val (.sl (.sl .int)) c)), (9, .one (.box 9)), (35, .one (.val (.sl (.sl .int)) t)), (36, .I t.length), (37, .I k)] [] [(9, .one (.val (.prod (.sl .int) (.sl .int)) (u, v)))]) (fun k => k ≤ t.length ∧ ∀ i, i < k → ∀ j, j < wid t → 0 < (t.getD i []).getD j 0 → u.getD i 0 + v.getD j 0 = (c.getD i []).getD j 0) (fun k => t.length - k) 0 ⟨Nat.zero_le _, by omega⟩ ?_ ?_
        · refine weak_of ?_ ?_ ?_ <;> simp only [push_cast, Int.reduceEq, Int.reduceLT, Int.reduceLE, Int.reduceNeg, Nat.reduceLT, Nat.reduceLeDiff, Int.reduceToNat, Int.cast_ofNat_Int, Nat.reduceBEq, Nat.reduceMul, Nat.reduceEqDiff, reduceCtorEq, Nat.reduceAdd]
        intro k ⟨hk, hall⟩ K' hL
        repeat' (first|(refine goK (by assumption) ?_; iterate 4 (try clear hK K))|(refine tri_seqk fun K hK => ?_)|((first|refine tri_region hE rfl ?_|refine tri_ret ?_|((first|refine tri_drawP hE 1 rfl rfl (by kernel_rfl) ?_|refine tri_drawP hE 2 rfl rfl (by kernel_rfl) ?_|refine tri_drawP hE 3 rfl rfl (by kernel_rfl) ?_|refine tri_drawP hE 4 rfl rfl (by kernel_rfl) ?_); simp only [List.length_cons, List.length_nil, Nat.reduceAdd, Nat.reduceSub, List.take_succ_cons, List.take_zero, List.drop_succ_cons, List.drop_zero])); simp +contextual only [hnl, ↓kN, ↓kP, ↓kG, ↓qN, ↓qP, ↓qG, push_cast, Int.reduceEq, Int.reduceLT, Int.reduceLE, Int.reduceNeg, Nat.reduceLT, Nat.reduceLeDiff, Int.reduceToNat, Int.cast_ofNat_Int, Nat.reduceBEq, Nat.reduceMul, Nat.reduceEqDiff, reduceCtorEq, Nat.reduceAdd])|refine tri_block ?_|((first|refine tri_skip ?_|refine tri_exit ?_); simp only [thenQ, blockQ, if_true, if_false, Nat.reduceEqDiff, reduceCtorEq])|(refine tri_cond (by rfl) (fun hb => ?_) (fun hb => ?_) <;> (try simp only [decide_eq_true_eq, decide_eq_false_iff_not, Bool.not_eq_true', Bool.not_eq_false', reduceCtorEq, Bool.true_eq_false, Bool.false_eq_true] at hb) <;> (try omega))|refine tri_unk (by rfl) ?_ ?_|refine And.intro (by first|omega|(unfold InR; omega)|assumption|decide|exact ⟨_, _, rfl⟩) ?_|(refine ⟨fun hc => ?_, fun hc => ?_⟩)|(intro hc; try omega))
        · have hk' : k < t.length := by omega
          have hrow := d4.row hk'
          have hcrow := d3.len (i := k) (by omega)
          have huk := hua k (by omega)
          refine tri_loopI (fun j : Nat => AS.of [(2, .one (.val (.sl (.sl .int)) c)), (9, .one (.box 9)), (13, .I k), (35, .one (.val (.sl (.sl .int)) t)), (36, .I t.length), (37, .I k), (42, .one (.val (.sl .int) (t.getD k []))), (43, .I (t.getD k []).length), (44, .I j)] [] [(9, .one (.val (.prod (.sl .int) (.sl .int)) (u, v)))]) (fun j => j ≤ wid t ∧ ∀ j', j' < j → 0 < (t.getD k []).getD j' 0 → u.getD k 0 + v.getD j' 0 = (c.getD k []).getD j' 0) (fun j => wid t - j) 0 ⟨Nat.zero_le _, by omega⟩ ?_ ?_
          · refine weak_of ?_ ?_ ?_ <;> simp only [push_cast, Int.reduceEq, Int.reduceLT, Int.reduceLE, Int.reduceNeg, Nat.reduceLT, Nat.reduceLeDiff, Int.reduceToNat, Int.cast_ofNat_Int, Nat.reduceBEq, Nat.reduceMul, Nat.reduceEqDiff, reduceCtorEq, Nat.reduceAdd]
          intro j ⟨hj, hj'⟩ K2 hL2
          have hvj := hva j
          repeat' (first|(refine goK (by assumption) ?_; iterate 4 (try clear hK K))|(refine tri_seqk fun K hK => ?_)|((first|refine tri_region hE rfl ?_|refine tri_ret ?_|((first|refine tri_drawP hE 1 rfl rfl (by kernel_rfl) ?_|refine tri_drawP hE 2 rfl rfl (by kernel_rfl) ?_|refine tri_drawP hE 3 rfl rfl (by kernel_rfl) ?_|refine tri_drawP hE 4 rfl rfl (by kernel_rfl) ?_); simp only [List.length_cons, List.length_nil, Nat.reduceAdd, Nat.reduceSub, List.take_succ_cons, List.take_zero, List.drop_succ_cons, List.drop_zero])); simp +contextual only [hnl, ↓kN, ↓kP, ↓kG, ↓qN, ↓qP, ↓qG, push_cast, Int.reduceEq, Int.reduceLT, Int.reduceLE, Int.reduceNeg, Nat.reduceLT, Nat.reduceLeDiff, Int.reduceToNat, Int.cast_ofNat_Int, Nat.reduceBEq, Nat.reduceMul, Nat.reduceEqDiff, reduceCtorEq, Nat.reduceAdd])|refine tri_block ?_|((first|refine tri_skip ?_|refine tri_exit ?_); simp only [thenQ, blockQ, if_true, if_false, Nat.reduceEqDiff, reduceCtorEq])|(refine tri_cond (by rfl) (fun hb => ?_) (fun hb => ?_) <;> (try simp only [decide_eq_true_eq, decide_eq_false_iff_not, Bool.not_eq_true', Bool.not_eq_false', reduceCtorEq, Bool.true_eq_false, Bool.false_eq_true] at hb) <;> (try omega))|refine tri_unk (by rfl) ?_ ?_|refine And.intro (by first|omega|(unfold InR; omega)|assumption|decide|exact ⟨_, _, rfl⟩) ?_|(refine ⟨fun hc => ?_, fun hc => ?_⟩)|(intro hc; try omega))
          · exact (errBest_8 h1 h2 h3 fun h => by have : u.getD k 0 + v.getD j 0 = _ := h k hk' j (by omega) (by omega); exact hb this).symm
          · refine hL2 _ (j + 1) ⟨by omega, fun j' k1 k2 => ?_⟩ (by omega) ?_
            · rcases Nat.lt_or_ge j' j with k3 | k3
              · exact hj' j' k3 k2
              · obtain rfl : j' = j := by omega
                exact hb
            refine weak_of ?_ ?_ ?_ <;> simp only [push_cast, Int.reduceEq, Int.reduceLT, Int.reduceLE, Int.reduceNeg, Nat.reduceLT, Nat.reduceLeDiff, Int.reduceToNat, Int.cast_ofNat_Int, Nat.reduceBEq, Nat.reduceMul, Nat.reduceEqDiff, reduceCtorEq, Nat.reduceAdd]
          · refine hL2 _ (j + 1) ⟨by omega, fun j' k1 k2 => ?_⟩ (by omega) ?_
            · rcases Nat.lt_or_ge j' j with k3 | k3
              · exact hj' j' k3 k2
              · obtain rfl : j' = j := by omega
                omega
            refine weak_of ?_ ?_ ?_ <;> simp only [push_cast, Int.reduceEq, Int.reduceLT, Int.reduceLE, Int.reduceNeg, Nat.reduceLT, Nat.reduceLeDiff, Int.reduceToNat, Int.cast_ofNat_Int, Nat.reduceBEq, Nat.reduceMul, Nat.reduceEqDiff, reduceCtorEq, Nat.reduceAdd]
          · refine hL _ (k + 1) ⟨by omega, fun i k1 => ?_⟩ (by omega) ?_
            · rcases Nat.lt_or_ge i k with k3 | k3
              · exact hall i k3
              · obtain rfl : i = k := by omega
                exact fun j' k4 => hj' j' (by omega)
            refine weak_of ?_ ?_ ?_ <;> simp only [push_cast, Int.reduceEq, Int.reduceLT, Int.reduceLE, Int.reduceNeg, Nat.reduceLT, Nat.reduceLeDiff, Int.reduceToNat, Int.cast_ofNat_Int, Nat.reduceBEq, Nat.reduceMul, Nat.reduceEqDiff, reduceCtorEq, Nat.reduceAdd]
        · exact (errBest_0 h1 h2 h3 fun i hi => hall i (by omega)).symm
      · have e := errBest_p h1 h2 h3
        replace hnl := And.intro hnl (And.intro h1 (And.intro h2 e))
        repeat' (first|(refine goK (by assumption) ?_; iterate 4 (try clear hK K))|(refine tri_seqk fun K hK => ?_)|((first|refine tri_region hE rfl ?_|refine tri_ret ?_|((first|refine tri_drawP hE 1 rfl rfl (by kernel_rfl) ?_|refine tri_drawP hE 2 rfl rfl (by kernel_rfl) ?_|refine tri_drawP hE 3 rfl rfl (by kernel_rfl) ?_|refine tri_drawP hE 4 rfl rfl (by kernel_rfl) ?_); simp only [List.length_cons, List.length_nil, Nat.reduceAdd, Nat.reduceSub, List.take_succ_cons, List.take_zero, List.drop_succ_cons, List.drop_zero])); simp +contextual only [hnl, ↓kN, ↓kP, ↓kG, ↓qN, ↓qP, ↓qG, push_cast, Int.reduceEq, Int.reduceLT, Int.reduceLE, Int.reduceNeg, Nat.reduceLT, Nat.reduceLeDiff, Int.reduceToNat, Int.cast_ofNat_Int, Nat.reduceBEq, Nat.reduceMul, Nat.reduceEqDiff, reduceCtorEq, Nat.reduceAdd])|refine tri_block ?_|((first|refine tri_skip ?_|refine tri_exit ?_); simp only [thenQ, blockQ, if_true, if_false, Nat.reduceEqDiff, reduceCtorEq])|(refine tri_cond (by rfl) (fun hb => ?_) (fun hb => ?_) <;> (try simp only [decide_eq_true_eq, decide_eq_false_iff_not, Bool.not_eq_true', Bool.not_eq_false', reduceCtorEq, Bool.true_eq_false, Bool.false_eq_true] at hb) <;> (try omega))|refine tri_unk (by rfl) ?_ ?_|refine And.intro (by first|omega|(unfold InR; omega)|assumption|decide|exact ⟨_, _, rfl⟩) ?_|(refine ⟨fun hc => ?_, fun hc => ?_⟩)|(intro hc; try omega))
    · have e := errBest_7 (p := (u, v)) h1 h2
      replace hnl := And.intro hnl (And.intro h1 e)
      repeat' (first|(refine goK (by assumption) ?_; iterate 4 (try clear hK K))|(refine tri_seqk fun K hK => ?_)|((first|refine tri_region hE rfl ?_|refine tri_ret ?_|((first|refine tri_drawP hE 1 rfl rfl (by kernel_rfl) ?_|refine tri_drawP hE 2 rfl rfl (by kernel_rfl) ?_|refine tri_drawP hE 3 rfl rfl (by kernel_rfl) ?_|refine tri_drawP hE 4 rfl rfl (by kernel_rfl) ?_); simp only [List.length_cons, List.length_nil, Nat.reduceAdd, Nat.reduceSub, List.take_succ_cons, List.take_zero, List.drop_succ_cons, List.drop_zero])); simp +contextual only [hnl, ↓kN, ↓kP, ↓kG, ↓qN, ↓qP, ↓qG, push_cast, Int.reduceEq, Int.reduceLT, Int.reduceLE, Int.reduceNeg, Nat.reduceLT, Nat.reduceLeDiff, Int.reduceToNat, Int.cast_ofNat_Int, Nat.reduceBEq, Nat.reduceMul, Nat.reduceEqDiff, reduceCtorEq, Nat.reduceAdd])|refine tri_block ?_|((first|refine tri_skip ?_|refine tri_exit ?_); simp only [thenQ, blockQ, if_true, if_false, Nat.reduceEqDiff, reduceCtorEq])|(refine tri_cond (by rfl) (fun hb => ?_) (fun hb => ?_) <;> (try simp only [decide_eq_true_eq, decide_eq_false_iff_not, Bool.not_eq_true', Bool.not_eq_false', reduceCtorEq, Bool.true_eq_false, Bool.false_eq_true] at hb) <;> (try omega))|refine tri_unk (by rfl) ?_ ?_|refine And.intro (by first|omega|(unfold InR; omega)|assumption|decide|exact ⟨_, _, rfl⟩) ?_|(refine ⟨fun hc => ?_, fun hc => ?_⟩)|(intro hc; try omega))
  · have e := errBest_f (t := t) (p := (u, v)) h1
    replace hnl := And.intro hnl e
    repeat' (first|(refine goK (by assumption) ?_; iterate 4 (try clear hK K))|(refine tri_seqk fun K hK => ?_)|((first|refine tri_region hE rfl ?_|refine tri_ret ?_|((first|refine tri_drawP hE 1 rfl rfl (by kernel_rfl) ?_|refine tri_drawP hE 2 rfl rfl (by kernel_rfl) ?_|refine tri_drawP hE 3 rfl rfl (by kernel_rfl) ?_|refine tri_drawP hE 4 rfl rfl (by kernel_rfl) ?_); simp only [List.length_cons, List.length_nil, Nat.reduceAdd, Nat.reduceSub, List.take_succ_cons, List.take_zero, List.drop_succ_cons, List.drop_zero])); simp +contextual only [hnl, ↓kN, ↓kP, ↓kG, ↓qN, ↓qP, ↓qG, push_cast, Int.reduceEq, Int.reduceLT, Int.reduceLE, Int.reduceNeg, Nat.reduceLT, Nat.reduceLeDiff, Int.reduceToNat, Int.cast_ofNat_Int, Nat.reduceBEq, Nat.reduceMul, Nat.reduceEqDiff, reduceCtorEq, Nat.reduceAdd])|refine tri_block ?_|((first|refine tri_skip ?_|refine tri_exit ?_); simp only [thenQ, blockQ, if_true, if_false, Nat.reduceEqDiff, reduceCtorEq])|(refine tri_cond (by rfl) (fun hb => ?_) (fun hb => ?_) <;> (try simp only [decide_eq_true_eq, decide_eq_false_iff_not, Bool.not_eq_true', Bool.not_eq_false', reduceCtorEq, Bool.true_eq_false, Bool.false_eq_true] at hb) <;> (try omega))|refine tri_unk (by rfl) ?_ ?_|refine And.intro (by first|omega|(unfold InR; omega)|assumption|decide|exact ⟨_, _, rfl⟩) ?_|(refine ⟨fun hc => ?_, fun hc => ?_⟩)|(intro hc; try omega))
end Go.Proofs.Ytpfkipccbgdkjac
