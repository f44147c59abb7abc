/- Sums of a table on the way; the statement PriceBounds. Conditions: in each contract. -/
import Derived.Test.YtaldpinkkgdklaaKe
namespace Go.Proofs.Ytaldpinkkgdklaa
open Go.RowKit Go.VS Go.OT
set_option linter.unusedSimpArgs false
set_option linter.unusedVariables false

/-- The sums of rows and of columns of the first rows, and of the first columns of row i. -/
def rowT (t : List (List Int)) (i j : Nat) : List Int := tbl t.length fun r => if r < i then lsum (t.getD r []) else if r = i then lsum ((t.getD i []).take j) else 0
def colT (t : List (List Int)) (i j : Nat) : List Int := tbl (wid t) fun c => colP (t.take i) c + if c < j then (t.getD i []).getD c 0 else 0
section
variable {t : List (List Int)} {i j : Nat}
theorem rowT_len : (rowT t i j).length = t.length := tbl_len _ _
theorem colT_len : (colT t i j).length = wid t := tbl_len _ _
theorem rowT_at (hi : i < t.length) : (rowT t i j).getD i 0 = lsum ((t.getD i []).take j) := by
  unfold rowT
  rw [tbl_get _ _ hi, if_neg (Nat.lt_irrefl _), if_pos rfl]
theorem colT_at (hj : j < wid t) : (colT t i j).getD j 0 = colP (t.take i) j := by
  unfold colT
  rw [tbl_get _ _ hj, if_neg (Nat.lt_irrefl _), Int.add_zero]
theorem rowT_zero {n : Nat} (h : n = t.length) : List.replicate n 0 = rowT t 0 0 := by
  subst h
  rw [← tbl_const]
  exact tbl_congr fun r _ => by
    rw [if_neg (Nat.not_lt_zero r)]
    split <;> rfl
theorem colT_zero {n : Nat} (h : n = wid t) : List.replicate n 0 = colT t 0 0 := by
  subst h
  rw [← tbl_const]
  exact tbl_congr fun c _ => by
    rw [if_neg (Nat.not_lt_zero c)]
    rfl
theorem rowT_next (h : InPlan t) (hi : i < t.length) : rowT t i (wid t) = rowT t (i + 1) 0 := tbl_congr fun r hr => by
  by_cases h1 : r = i
  · subst h1
    rw [if_neg (Nat.lt_irrefl _), if_pos rfl, if_pos (Nat.lt_succ_self _), List.take_of_length_le (by rw [h.row hi]; exact Nat.le_refl _)]
  · rw [if_neg h1]
    by_cases h2 : r < i
    · rw [if_pos h2, if_pos (by omega)]
    · rw [if_neg h2, if_neg (by omega)]
      split <;> rfl
theorem colT_next (hi : i < t.length) : colT t i (wid t) = colT t (i + 1) 0 := tbl_congr fun c hc => by
  rw [if_pos hc, if_neg (Nat.not_lt_zero c), colP_take hi, Int.add_zero]
theorem rowT_step (h : InPlan t) (hi : i < t.length) (hj : j < wid t) : (rowT t i j).set i (lsum ((t.getD i []).take j) + (t.getD i []).getD j 0) = rowT t i (j + 1) := by
  have hl := h.row hi
  unfold rowT
  rw [tbl_set]
  refine tbl_congr fun r _ => ?_
  by_cases h : r = i
  · subst h
    rw [if_pos rfl, if_neg (Nat.lt_irrefl _), if_pos rfl, lsum_take _ _ (by omega)]
  · rw [if_neg h, if_neg h, if_neg h]
theorem colT_step (hj : j < wid t) : (colT t i j).set j (colP (t.take i) j + (t.getD i []).getD j 0) = colT t i (j + 1) := by
  unfold colT
  rw [tbl_set]
  refine tbl_congr fun c _ => ?_
  by_cases h : c = j
  · subst h
    rw [if_pos rfl, if_pos (Nat.lt_succ_self _)]
  · rw [if_neg h]
    by_cases h2 : c < j
    · rw [if_pos h2, if_pos (by omega)]
    · rw [if_neg h2, if_neg (by omega)]
theorem rowT_end : rowT t t.length 0 = rowsP t := by
  rw [rowsP, map_tbl t []]
  exact tbl_congr fun r hr => if_pos hr
theorem colT_end : colT t t.length 0 = colsP t := by
  unfold colT
  rw [List.take_of_length_le (Nat.le_refl _)]
  exact tbl_congr fun c _ => by rw [if_neg (Nat.not_lt_zero c), Int.add_zero]
end

@[push_cast] def trueBounds : Con := ⟨[.dat (.prod (.sl .int) (.prod (.sl .int) (.sl (.sl .int)))), .dat (.sl (.sl .int)), .dat (.prod (.sl .int) (.sl .int))], fun _ => True, fun _ => { res := [.val .bool true] }⟩

set_option maxHeartbeats 4000000 in
theorem bounds_fn : FnSpec Try.prog 12 trueBounds := by
  refine FnSpec.of_tri' (E := know [(16, longJCon), (17, wideCon), (42, dearCon), (18, knownCon), (29, leastCon), (43, worthWCon), (19, costVCon)] [] [] [74, 78]) (know_ok (all_cons longJ_spec (all_cons wide_spec (all_cons dear_spec (all_cons known_spec (all_cons pleast_spec (all_cons pworthW_spec (all_cons pcostv_spec all_nil))))))) all_nil all_nil) Try.func12 rfl rfl (by kernel_rfl) ?_
  intro C x hE hnl hfit hpre
  simp only [Try.ntmps12, Try.results12, maxLen, Nat.reduceSub, Nat.reducePow, Nat.reduceAdd, Int.cast_ofNat_Int, push_cast] at hnl hfit hpre ⊢
  obtain ⟨⟨(a : List Int), (b : List Int), (c : List (List Int))⟩, (t : List (List Int)), (p : Prices), _⟩ := x
  dsimp only at hfit hpre ⊢
  by_cases hf : errFits a b c = 0
  · obtain ⟨d1, d2, d3, d4, d5, d6⟩ := fits_dims hf
    have hal := okMass_len d4
    have hbl := okMass_len d5
    have hw : errWorth a b c p = 0 → worthW a b c p ≤ leastV a b c := fun h => by
      have h3 : errPr c p = 0 := by rw [errWorth, if_pos hf] at h; exact h
      rw [(errWorth_0 hf h3).2]
      exact worth_least hf h3
    by_cases hs : errSpend c t = 0
    · obtain ⟨k1, k2, k3, k4⟩ := errSpend_ok hs
      have htl := k2.rows
      have hla : a.length = t.length := by omega
      have hlb : b.length = wid t := by omega
      replace hnl := And.intro hnl (And.intro hf hs)
      repeat' (first|(refine goK (by assumption) ?_; iterate 4 (try clear hK K))|(refine tri_seqk fun K hK => ?_)|((first|refine tri_region hE rfl ?_|refine tri_ret ?_|((first|refine tri_drawP hE 1 rfl rfl (by kernel_rfl) ?_|refine tri_drawP hE 2 rfl rfl (by kernel_rfl) ?_|refine tri_drawP hE 3 rfl rfl (by kernel_rfl) ?_|refine tri_drawP hE 4 rfl rfl (by kernel_rfl) ?_); simp only [List.length_cons, List.length_nil, Nat.reduceAdd, Nat.reduceSub, List.take_succ_cons, List.take_zero, List.drop_succ_cons, List.drop_zero])); simp +contextual only [hnl, ↓kN, ↓kP, ↓kG, ↓qN, ↓qP, ↓qG, push_cast, Int.reduceEq, Int.reduceLT, Int.reduceLE, Int.reduceNeg, Nat.reduceLT, Nat.reduceLeDiff, Int.reduceToNat, Int.cast_ofNat_Int, Nat.reduceBEq, Nat.reduceMul, Nat.reduceEqDiff, reduceCtorEq, Nat.reduceAdd])|refine tri_block ?_|((first|refine tri_skip ?_|refine tri_exit ?_); simp only [thenQ, blockQ, if_true, if_false, Nat.reduceEqDiff, reduceCtorEq])|(refine tri_cond (by rfl) (fun hb => ?_) (fun hb => ?_) <;> (try simp only [decide_eq_true_eq, decide_eq_false_iff_not, Bool.not_eq_true', Bool.not_eq_false', reduceCtorEq, Bool.true_eq_false, Bool.false_eq_true] at hb) <;> (try omega))|refine tri_unk (by rfl) ?_ ?_|refine And.intro (by first|omega|(unfold InR; omega)|assumption|decide|exact ⟨_, _, rfl⟩) ?_|(refine ⟨fun hc => ?_, fun hc => ?_⟩)|(intro hc; try omega))
      all_goals
        refine tri_thaw 13 74 74 (by simp only [push_cast, Int.reduceEq, Int.reduceLT, Int.reduceLE, Int.reduceNeg, Nat.reduceLT, Nat.reduceLeDiff, Int.reduceToNat, Int.cast_ofNat_Int, Nat.reduceBEq, Nat.reduceMul, Nat.reduceEqDiff, reduceCtorEq, Nat.reduceAdd]; rfl) (by omega) ?_
        refine tri_thaw 14 78 78 (by simp only [push_cast, Int.reduceEq, Int.reduceLT, Int.reduceLE, Int.reduceNeg, Nat.reduceLT, Nat.reduceLeDiff, Int.reduceToNat, Int.cast_ofNat_Int, Nat.reduceBEq, Nat.reduceMul, Nat.reduceEqDiff, reduceCtorEq, Nat.reduceAdd]; rfl) (by omega) ?_
        refine tri_loopI (fun i : Nat => AS.of [(1, .one (.val (.sl (.sl .int)) t)), (3, .one (.box 3)), (11, .I (spendV c t)), (13, .one (.ref 74)), (14, .one (.ref 78)), (15, .I i)] [(74, .flat 3 .int (rowT t i 0)), (78, .flat 3 .int (colT t i 0))] [(3, .one (.val (.prod (.sl .int) (.prod (.sl .int) (.sl (.sl .int)))) (a, b, c)))]) (fun i => i ≤ t.length) (fun i => t.length - i) 0 (Nat.zero_le _) ?_ ?_
        · refine weak_of ?_ ?_ ?_ <;> simp only [push_cast, Int.reduceEq, Int.reduceLT, Int.reduceLE, Int.reduceNeg, Nat.reduceLT, Nat.reduceLeDiff, Int.reduceToNat, Int.cast_ofNat_Int, Nat.reduceBEq, Nat.reduceMul, Nat.reduceEqDiff, reduceCtorEq, Nat.reduceAdd]
          exact ⟨.inl (congrArg _ (rowT_zero hla)), .inl (congrArg _ (colT_zero hlb))⟩
        intro i hi K' hL
        rcases Nat.lt_or_ge i t.length with hit | hit
        · have hrow := k2.row hit
          repeat' (first|(refine goK (by assumption) ?_; iterate 4 (try clear hK K))|(refine tri_seqk fun K hK => ?_)|((first|refine tri_region hE rfl ?_|refine tri_ret ?_|((first|refine tri_drawP hE 1 rfl rfl (by kernel_rfl) ?_|refine tri_drawP hE 2 rfl rfl (by kernel_rfl) ?_|refine tri_drawP hE 3 rfl rfl (by kernel_rfl) ?_|refine tri_drawP hE 4 rfl rfl (by kernel_rfl) ?_); simp only [List.length_cons, List.length_nil, Nat.reduceAdd, Nat.reduceSub, List.take_succ_cons, List.take_zero, List.drop_succ_cons, List.drop_zero])); simp +contextual only [hnl, ↓kN, ↓kP, ↓kG, ↓qN, ↓qP, ↓qG, push_cast, Int.reduceEq, Int.reduceLT, Int.reduceLE, Int.reduceNeg, Nat.reduceLT, Nat.reduceLeDiff, Int.reduceToNat, Int.cast_ofNat_Int, Nat.reduceBEq, Nat.reduceMul, Nat.reduceEqDiff, reduceCtorEq, Nat.reduceAdd])|refine tri_block ?_|((first|refine tri_skip ?_|refine tri_exit ?_); simp only [thenQ, blockQ, if_true, if_false, Nat.reduceEqDiff, reduceCtorEq])|(refine tri_cond (by rfl) (fun hb => ?_) (fun hb => ?_) <;> (try simp only [decide_eq_true_eq, decide_eq_false_iff_not, Bool.not_eq_true', Bool.not_eq_false', reduceCtorEq, Bool.true_eq_false, Bool.false_eq_true] at hb) <;> (try omega))|refine tri_unk (by rfl) ?_ ?_|refine And.intro (by first|omega|(unfold InR; omega)|assumption|decide|exact ⟨_, _, rfl⟩) ?_|(refine ⟨fun hc => ?_, fun hc => ?_⟩)|(intro hc; try omega))
          refine tri_loopI (fun j : Nat => AS.of [(1, .one (.val (.sl (.sl .int)) t)), (3, .one (.box 3)), (11, .I (spendV c t)), (13, .one (.ref 74)), (14, .one (.ref 78)), (15, .I i), (16, .I j)] [(74, .flat 3 .int (rowT t i j)), (78, .flat 3 .int (colT t i j))] [(3, .one (.val (.prod (.sl .int) (.prod (.sl .int) (.sl (.sl .int)))) (a, b, c)))]) (fun j => j ≤ wid t) (fun j => wid t - j) 0 (Nat.zero_le _) ?_ ?_
          · refine weak_of ?_ ?_ ?_ <;> simp only [push_cast, Int.reduceEq, Int.reduceLT, Int.reduceLE, Int.reduceNeg, Nat.reduceLT, Nat.reduceLeDiff, Int.reduceToNat, Int.cast_ofNat_Int, Nat.reduceBEq, Nat.reduceMul, Nat.reduceEqDiff, reduceCtorEq, Nat.reduceAdd]
            all_goals first | exact ⟨.inl rfl, .inl rfl⟩ | skip
          intro j hj K2 hL2
          have l1 := rowT_len (t := t) (i := i) (j := j)
          have l2 := colT_len (t := t) (i := i) (j := j)
          have w6 := k2.cols
          rcases Nat.lt_or_ge j (wid t) with hjt | hjt
          · have e1 := rowT_at (j := j) hit
            have e2 := colT_at (i := i) hjt
            have s1 := k2.sumR hit j
            have s2 := k2.at hit hjt
            have s3 := k2.sumC hjt i
            replace hnl := And.intro hnl (And.intro l1 (And.intro l2 (And.intro e1 e2)))
            repeat' (first|(refine goK (by assumption) ?_; iterate 4 (try clear hK K))|(refine tri_seqk fun K hK => ?_)|((first|refine tri_region hE rfl ?_|refine tri_ret ?_|((first|refine tri_drawP hE 1 rfl rfl (by kernel_rfl) ?_|refine tri_drawP hE 2 rfl rfl (by kernel_rfl) ?_|refine tri_drawP hE 3 rfl rfl (by kernel_rfl) ?_|refine tri_drawP hE 4 rfl rfl (by kernel_rfl) ?_); simp only [List.length_cons, List.length_nil, Nat.reduceAdd, Nat.reduceSub, List.take_succ_cons, List.take_zero, List.drop_succ_cons, List.drop_zero])); simp +contextual only [hnl, ↓kN, ↓kP, ↓kG, ↓qN, ↓qP, ↓qG, push_cast, Int.reduceEq, Int.reduceLT, Int.reduceLE, Int.reduceNeg, Nat.reduceLT, Nat.reduceLeDiff, Int.reduceToNat, Int.cast_ofNat_Int, Nat.reduceBEq, Nat.reduceMul, Nat.reduceEqDiff, reduceCtorEq, Nat.reduceAdd])|refine tri_block ?_|((first|refine tri_skip ?_|refine tri_exit ?_); simp only [thenQ, blockQ, if_true, if_false, Nat.reduceEqDiff, reduceCtorEq])|(refine tri_cond (by rfl) (fun hb => ?_) (fun hb => ?_) <;> (try simp only [decide_eq_true_eq, decide_eq_false_iff_not, Bool.not_eq_true', Bool.not_eq_false', reduceCtorEq, Bool.true_eq_false, Bool.false_eq_true] at hb) <;> (try omega))|refine tri_unk (by rfl) ?_ ?_|refine And.intro (by first|omega|(unfold InR; omega)|assumption|decide|exact ⟨_, _, rfl⟩) ?_|(refine ⟨fun hc => ?_, fun hc => ?_⟩)|(intro hc; try omega))
            refine hL2 _ (j + 1) (by omega) (by omega) ?_
            refine weak_of ?_ ?_ ?_ <;> simp only [push_cast, Int.reduceEq, Int.reduceLT, Int.reduceLE, Int.reduceNeg, Nat.reduceLT, Nat.reduceLeDiff, Int.reduceToNat, Int.cast_ofNat_Int, Nat.reduceBEq, Nat.reduceMul, Nat.reduceEqDiff, reduceCtorEq, Nat.reduceAdd]
            rw [rowT_step k2 hit hjt, colT_step hjt]
            exact ⟨.inl rfl, .inl rfl⟩
          · obtain rfl : j = wid t := by omega
            replace hnl := And.intro hnl (And.intro l1 l2)
            repeat' (first|(refine goK (by assumption) ?_; iterate 4 (try clear hK K))|(refine tri_seqk fun K hK => ?_)|((first|refine tri_region hE rfl ?_|refine tri_ret ?_|((first|refine tri_drawP hE 1 rfl rfl (by kernel_rfl) ?_|refine tri_drawP hE 2 rfl rfl (by kernel_rfl) ?_|refine tri_drawP hE 3 rfl rfl (by kernel_rfl) ?_|refine tri_drawP hE 4 rfl rfl (by kernel_rfl) ?_); simp only [List.length_cons, List.length_nil, Nat.reduceAdd, Nat.reduceSub, List.take_succ_cons, List.take_zero, List.drop_succ_cons, List.drop_zero])); simp +contextual only [hnl, ↓kN, ↓kP, ↓kG, ↓qN, ↓qP, ↓qG, push_cast, Int.reduceEq, Int.reduceLT, Int.reduceLE, Int.reduceNeg, Nat.reduceLT, Nat.reduceLeDiff, Int.reduceToNat, Int.cast_ofNat_Int, Nat.reduceBEq, Nat.reduceMul, Nat.reduceEqDiff, reduceCtorEq, Nat.reduceAdd])|refine tri_block ?_|((first|refine tri_skip ?_|refine tri_exit ?_); simp only [thenQ, blockQ, if_true, if_false, Nat.reduceEqDiff, reduceCtorEq])|(refine tri_cond (by rfl) (fun hb => ?_) (fun hb => ?_) <;> (try simp only [decide_eq_true_eq, decide_eq_false_iff_not, Bool.not_eq_true', Bool.not_eq_false', reduceCtorEq, Bool.true_eq_false, Bool.false_eq_true] at hb) <;> (try omega))|refine tri_unk (by rfl) ?_ ?_|refine And.intro (by first|omega|(unfold InR; omega)|assumption|decide|exact ⟨_, _, rfl⟩) ?_|(refine ⟨fun hc => ?_, fun hc => ?_⟩)|(intro hc; try omega))
            refine hL _ (i + 1) (by omega) (by omega) ?_
            refine weak_of ?_ ?_ ?_ <;> simp only [push_cast, Int.reduceEq, Int.reduceLT, Int.reduceLE, Int.reduceNeg, Nat.reduceLT, Nat.reduceLeDiff, Int.reduceToNat, Int.cast_ofNat_Int, Nat.reduceBEq, Nat.reduceMul, Nat.reduceEqDiff, reduceCtorEq, Nat.reduceAdd]
            rw [rowT_next k2 hit, colT_next hit]
            exact ⟨.inl rfl, .inl rfl⟩
        · obtain rfl : i = t.length := by omega
          rw [rowT_end, colT_end]
          have hown := own_least hs
          repeat' (first|(refine goK (by assumption) ?_; iterate 4 (try clear hK K))|(refine tri_seqk fun K hK => ?_)|((first|refine tri_region hE rfl ?_|refine tri_ret ?_|((first|refine tri_drawP hE 1 rfl rfl (by kernel_rfl) ?_|refine tri_drawP hE 2 rfl rfl (by kernel_rfl) ?_|refine tri_drawP hE 3 rfl rfl (by kernel_rfl) ?_|refine tri_drawP hE 4 rfl rfl (by kernel_rfl) ?_); simp only [List.length_cons, List.length_nil, Nat.reduceAdd, Nat.reduceSub, List.take_succ_cons, List.take_zero, List.drop_succ_cons, List.drop_zero])); simp +contextual only [hnl, ↓kN, ↓kP, ↓kG, ↓qN, ↓qP, ↓qG, push_cast, Int.reduceEq, Int.reduceLT, Int.reduceLE, Int.reduceNeg, Nat.reduceLT, Nat.reduceLeDiff, Int.reduceToNat, Int.cast_ofNat_Int, Nat.reduceBEq, Nat.reduceMul, Nat.reduceEqDiff, reduceCtorEq, Nat.reduceAdd])|refine tri_block ?_|((first|refine tri_skip ?_|refine tri_exit ?_); simp only [thenQ, blockQ, if_true, if_false, Nat.reduceEqDiff, reduceCtorEq])|(refine tri_cond (by rfl) (fun hb => ?_) (fun hb => ?_) <;> (try simp only [decide_eq_true_eq, decide_eq_false_iff_not, Bool.not_eq_true', Bool.not_eq_false', reduceCtorEq, Bool.true_eq_false, Bool.false_eq_true] at hb) <;> (try omega))|refine tri_unk (by rfl) ?_ ?_|refine And.intro (by first|omega|(unfold InR; omega)|assumption|decide|exact ⟨_, _, rfl⟩) ?_|(refine ⟨fun hc => ?_, fun hc => ?_⟩)|(intro hc; try omega))
          all_goals exact absurd (hown (by assumption)) hc
    · replace hnl := And.intro hnl (And.intro hf (eq_false hs))
      repeat' (first|(refine goK (by assumption) ?_; iterate 4 (try clear hK K))|(refine tri_seqk fun K hK => ?_)|((first|refine tri_region hE rfl ?_|refine tri_ret ?_|((first|refine tri_drawP hE 1 rfl rfl (by kernel_rfl) ?_|refine tri_drawP hE 2 rfl rfl (by kernel_rfl) ?_|refine tri_drawP hE 3 rfl rfl (by kernel_rfl) ?_|refine tri_drawP hE 4 rfl rfl (by kernel_rfl) ?_); simp only [List.length_cons, List.length_nil, Nat.reduceAdd, Nat.reduceSub, List.take_succ_cons, List.take_zero, List.drop_succ_cons, List.drop_zero])); simp +contextual only [hnl, ↓kN, ↓kP, ↓kG, ↓qN, ↓qP, ↓qG, push_cast, Int.reduceEq, Int.reduceLT, Int.reduceLE, Int.reduceNeg, Nat.reduceLT, Nat.reduceLeDiff, Int.reduceToNat, Int.cast_ofNat_Int, Nat.reduceBEq, Nat.reduceMul, Nat.reduceEqDiff, reduceCtorEq, Nat.reduceAdd])|refine tri_block ?_|((first|refine tri_skip ?_|refine tri_exit ?_); simp only [thenQ, blockQ, if_true, if_false, Nat.reduceEqDiff, reduceCtorEq])|(refine tri_cond (by rfl) (fun hb => ?_) (fun hb => ?_) <;> (try simp only [decide_eq_true_eq, decide_eq_false_iff_not, Bool.not_eq_true', Bool.not_eq_false', reduceCtorEq, Bool.true_eq_false, Bool.false_eq_true] at hb) <;> (try omega))|refine tri_unk (by rfl) ?_ ?_|refine And.intro (by first|omega|(unfold InR; omega)|assumption|decide|exact ⟨_, _, rfl⟩) ?_|(refine ⟨fun hc => ?_, fun hc => ?_⟩)|(intro hc; try omega))
  · replace hnl := And.intro hnl (eq_false hf)
    repeat' (first|(refine goK (by assumption) ?_; iterate 4 (try clear hK K))|(refine tri_seqk fun K hK => ?_)|((first|refine tri_region hE rfl ?_|refine tri_ret ?_|((first|refine tri_drawP hE 1 rfl rfl (by kernel_rfl) ?_|refine tri_drawP hE 2 rfl rfl (by kernel_rfl) ?_|refine tri_drawP hE 3 rfl rfl (by kernel_rfl) ?_|refine tri_drawP hE 4 rfl rfl (by kernel_rfl) ?_); simp only [List.length_cons, List.length_nil, Nat.reduceAdd, Nat.reduceSub, List.take_succ_cons, List.take_zero, List.drop_succ_cons, List.drop_zero])); simp +contextual only [hnl, ↓kN, ↓kP, ↓kG, ↓qN, ↓qP, ↓qG, push_cast, Int.reduceEq, Int.reduceLT, Int.reduceLE, Int.reduceNeg, Nat.reduceLT, Nat.reduceLeDiff, Int.reduceToNat, Int.cast_ofNat_Int, Nat.reduceBEq, Nat.reduceMul, Nat.reduceEqDiff, reduceCtorEq, Nat.reduceAdd])|refine tri_block ?_|((first|refine tri_skip ?_|refine tri_exit ?_); simp only [thenQ, blockQ, if_true, if_false, Nat.reduceEqDiff, reduceCtorEq])|(refine tri_cond (by rfl) (fun hb => ?_) (fun hb => ?_) <;> (try simp only [decide_eq_true_eq, decide_eq_false_iff_not, Bool.not_eq_true', Bool.not_eq_false', reduceCtorEq, Bool.true_eq_false, Bool.false_eq_true] at hb) <;> (try omega))|refine tri_unk (by rfl) ?_ ?_|refine And.intro (by first|omega|(unfold InR; omega)|assumption|decide|exact ⟨_, _, rfl⟩) ?_|(refine ⟨fun hc => ?_, fun hc => ?_⟩)|(intro hc; try omega))
end Go.Proofs.Ytaldpinkkgdklaa
