/- The statement TopLoose: for every job, waste and offer. No condition. -/
import Derived.Test.YtogopoiohckpdaeUd
import Derived.Test.YtogopoiohckpdaeSy
namespace Go.Proofs.Ytogopoiohckpdae
open Go.RowKit Go.VS Go.OT Go.LC
set_option linter.unusedSimpArgs false
set_option linter.unusedVariables false

section
variable {a b : List Int} {c : List (List Int)} {w : Int}
theorem okMass_of {l : List Int} (h1 : 1 ≤ l.length ∧ l.length ≤ 5) (h2 : ∀ i, i < l.length → 0 ≤ ga l i ∧ ga l i ≤ 30) : okMass l = true := by
  unfold okMass
  simp only [Bool.and_eq_true, decide_eq_true_eq, List.all_eq_true]
  refine ⟨h1, fun x hx => ?_⟩
  obtain ⟨k, hk1, rfl⟩ := List.getElem_of_mem hx
  have := h2 k hk1
  unfold ga at this
  rwa [List.getD_eq_getElem?_getD, List.getElem?_eq_getElem hk1] at this
theorem dumA_ok {x y : List Int} (hx : okMass x = true) (h4 : x.length ≤ 4) (hy : 0 ≤ lsum y ∧ lsum y ≤ 30) : okMass (dumA x y 0) = true := by
  have hl := okMass_len hx
  refine okMass_of (by rw [dumA_len]; omega) fun i hi => ?_
  rw [dumA_len] at hi
  rw [dumA_at hi]
  unfold withD
  split
  · rename_i h; exact okMass_at hx h
  · rw [← lsum_sumL]; omega
/-- With dumps that are masses themselves: the least of plans is the least of loose plans. -/
theorem dump_least (hf : ForOK a b c) (hw : 0 ≤ w ∧ w ≤ 99) (ha : a.length ≤ 4) (hb : b.length ≤ 4) (hla : lsum a ≤ 30) (hlb : lsum b ≤ 30) : errFits (dumA a b 0) (dumA b a 0) (lpT c w) = 0 ∧ leastV (dumA a b 0) (dumA b a 0) (lpT c w) = looseV a b c w := by
  have hk := lp_ok hf hw
  have hs := MC.sums hf
  have hr := hf.rows
  have hc := hf.cols
  have ha5 := hf.mc.a5
  have hb5 := hf.mc.b5
  have hct := hk.mc.hc
  rw [dumA_len, dumA_len] at hct
  have hTl : (lpT c w).length = a.length + 1 := hct.rows
  have hTw : wid (lpT c w) = b.length + 1 := by rw [lpT, wid_dum hf, hc]
  have hT : InTab 0 99 (lpT c w) := by
    refine ⟨by omega, by omega, fun r hr => ⟨?_, fun x hx => ?_⟩⟩
    · obtain ⟨i, hi, rfl⟩ := List.getElem_of_mem hr
      have := hct.cols i (by omega)
      rw [List.getD_eq_getElem?_getD, List.getElem?_eq_getElem hi] at this
      exact congrArg Int.ofNat (this.trans hTw.symm)
    · obtain ⟨i, j, hi, hj, rfl⟩ := mem_gt hr hx
      have h1 := hct.cols i (by omega)
      exact hct.at' i j (by omega) (by omega)
  have hF : ForOK (dumA a b 0) (dumA b a 0) (lpT c w) := ⟨dumA_ok hf.ha ha (by omega), dumA_ok hf.hb hb (by omega), hT, by rw [hTl, dumA_len], by rw [hTw, dumA_len]⟩
  have e0 : errFits (dumA a b 0) (dumA b a 0) (lpT c w) = 0 := errFits_0 hF (by rw [lsum_sumL, lsum_sumL]; exact hk.sums)
  refine ⟨e0, ?_⟩
  rw [leastV_0 e0]
  have hsz : Sz (a.length + 1) (b.length + 1) (lpP a b c w) := by
    have := hk.pre.hp.sz
    rwa [hTl, hTw] at this
  exact (spend_cst hsz).trans hk.cost
theorem few_most (hm : MC a b c) (w : Int) : fewK a b c w ≤ mostK a b c w ∧ objV a b c w (fewK a b c w) = looseV a b c w ∧ objV a b c w (mostK a b c w) = looseV a b c w := by
  have h1 := (few_spec hm w).1
  have h2 := (most_spec hm w).1
  have h3 := ((loose_obj hm w h1).2.1 rfl).2
  exact ⟨h3, rfl, (loose_obj hm w h2).2.2 ⟨h3, Nat.le_refl _⟩⟩
theorem own_best (he : errWd a b c w = 0) : errBL a b c w (stepP a b c (fewK a b c w)) (lpR a b c w) = 0 := by
  obtain ⟨k1, k2⟩ := cheap_cost he
  obtain ⟨k3, k4⟩ := prices_worth he
  have e1 : errLo a b (stepP a b c (fewK a b c w)) = 0 := by rw [errLC, if_pos he] at k1; exact k1
  have e2 : errPrL c w (lpR a b c w) = 0 := by rw [errWL, if_pos he] at k3; exact k3
  have e3 : costL a b c w (stepP a b c (fewK a b c w)) = costV a b c w (stepP a b c (fewK a b c w)) := if_pos k1
  have e4 : worthL a b c w (lpR a b c w) = worthV a b (lpR a b c w) := if_pos k3
  rw [errBL, if_pos he, if_pos e1, if_pos e2, if_pos (by omega)]
theorem own_low (he : errWd a b c w = 0) : (lpR a b c w).1.length = a.length ∧ ∀ k, k < a.length → (lpR a b c w).1.getD k 0 ≤ w := by
  obtain ⟨k3, k4⟩ := prices_worth he
  have e2 : errPrL c w (lpR a b c w) = 0 := by rw [errWL, if_pos he] at k3; exact k3
  have hl : (lpR a b c w).1.length = a.length := tbl_len _ _
  refine ⟨hl, fun k hk => ?_⟩
  unfold errPrL at e2
  split at e2
  · split at e2
    · split at e2
      · rename_i h; exact h _ (List.mem_append_left _ (getD_mem 0 (by omega)))
      · omega
    · rename_i h; exact absurd e2 h
  · omega
end
/-- A row that is filled from its left. -/
def fillR (n k : Nat) (w : Int) : List Int := tbl n fun i => if i < k then w else 0
theorem fillR_0 (n : Nat) (w : Int) : List.replicate n 0 = fillR n 0 w := by
  unfold fillR tbl
  apply List.ext_getElem
  · simp
  · intro i h1 h2; simp
theorem fillR_len (n k : Nat) (w : Int) : (fillR n k w).length = n := tbl_len _ _
theorem fillR_set (n k : Nat) (w : Int) : (fillR n k w).set k w = fillR n (k + 1) w := by
  unfold fillR
  rw [tbl_set]
  refine tbl_congr fun i hi => ?_
  by_cases h : i = k
  · subst h; rw [if_pos rfl, if_pos (by omega)]
  · rw [if_neg h]
    by_cases h2 : i < k
    · rw [if_pos h2, if_pos (by omega)]
    · rw [if_neg h2, if_neg (by omega)]
theorem fillR_all (n : Nat) (w : Int) : fillR (n + 1) n w = List.replicate n w ++ [0] := by
  unfold fillR
  rw [tbl_succ, if_neg (Nat.lt_irrefl n)]
  congr 1
  unfold tbl
  apply List.ext_getElem
  · simp
  · intro i h1 h2
    have : i < n := by simpa using h1
    simp [this]
theorem known10 : errWd [3] [1] [[0]] 4 = 0 ∧ looseE [3] [1] [[0]] 4 = 8 := by decide +kernel

@[push_cast] def trueTL : Con := ⟨[.dat (.prod (.sl .int) (.prod (.sl .int) (.sl (.sl .int)))), .dat .int, .dat (.prod .int (.prod (.sl (.sl .int)) (.prod (.sl .int) (.sl .int))))], fun _ => True, fun _ => { res := [.val .bool true] }⟩
set_option maxRecDepth 20000 in
set_option maxHeartbeats 4000000 in
theorem topl_fn : FnSpec Try.prog 3 trueTL := by
  refine FnSpec.of_tri' (E := know [(5, longJCon), (6, wideCon), (4, lLeastCon), (7, lPartsCon), (8, amountCon), (9, lCheapCon), (10, lPricesCon), (11, bestLCon), (12, totalCon), (13, movECon), (14, lCostCon), (15, lWorthCon), (16, leastCon)] [] [] [294, 303, 320]) (know_ok (all_cons longJ_spec (all_cons wide_spec (all_cons lLeast_spec (all_cons lParts_spec (all_cons lAmount_spec (all_cons lCheap_spec (all_cons lprices_spec (all_cons lbest_spec (all_cons qtotal_spec (all_cons lMov_spec (all_cons lCost_spec (all_cons lWorth_spec (all_cons pleast_spec all_nil))))))))))))) all_nil all_nil) Try.func3 rfl rfl (by kernel_rfl) ?_
  intro C x hE hnl hfit hpre
  simp only [Try.ntmps3, Try.results3, maxLen, Nat.reduceSub, Nat.reducePow, Nat.reduceAdd, Int.cast_ofNat_Int, push_cast] at hnl hfit hpre ⊢
  obtain ⟨⟨(a : List Int), (b : List Int), (c : List (List Int))⟩, (w : Int), ⟨(w2 : Int), (t : List (List Int)), ⟨(u : List Int), (v : List Int)⟩⟩, _⟩ := x
  dsimp only at hfit hpre ⊢
  refine tri_seqk fun K hK => ?_
  refine tri_region hE rfl ?_
  simp +contextual only [hnl, ↓kN, ↓kP, ↓kG, ↓qN, ↓qP, ↓qG, push_cast, Int.reduceEq, Int.reduceLT, Int.reduceLE, Int.reduceNeg, Nat.reduceLT, Nat.reduceLeDiff, Int.reduceToNat, Int.cast_ofNat_Int, Nat.reduceBEq, Nat.reduceMul, Nat.reduceEqDiff, reduceCtorEq, Nat.reduceAdd]
  refine ⟨⟨_, _, rfl⟩, ⟨_, _, rfl⟩, goK hK ?_⟩
  clear hK K
  refine tri_unbox 5 5 (sh := .prod .int (.prod (.sl (.sl .int)) (.prod (.sl .int) (.sl .int)))) (x := (w2, t, u, v)) (by simp only [push_cast, Int.reduceEq, Int.reduceLT, Int.reduceLE, Int.reduceNeg, Nat.reduceLT, Nat.reduceLeDiff, Int.reduceToNat, Int.cast_ofNat_Int, Nat.reduceBEq, Nat.reduceMul, Nat.reduceEqDiff, reduceCtorEq, Nat.reduceAdd]) (by simp only [push_cast, Int.reduceEq, Int.reduceLT, Int.reduceLE, Int.reduceNeg, Nat.reduceLT, Nat.reduceLeDiff, Int.reduceToNat, Int.cast_ofNat_Int, Nat.reduceBEq, Nat.reduceMul, Nat.reduceEqDiff, reduceCtorEq, Nat.reduceAdd]) ?_
  by_cases he : errWd a b c w = 0
  · obtain ⟨hf, hw⟩ := errWd_ok he
    have hm := hf.mc
    have hF : errFor a b c = 0 := errFor_0 hf
    have e1 : looseE a b c w = looseV a b c w := if_pos he
    have e2 : cheapE a b c w = stepP a b c (fewK a b c w) := if_pos he
    have e3 : lpE a b c w = lpR a b c w := if_pos he
    have e4 : partsE a b c = partsL a b c (maxU a b) := if_pos hF
    have e5 : fewE a b c w = fewK a b c w := if_pos he
    have e6 : mostE a b c w = mostK a b c w := if_pos he
    replace hnl := And.intro hnl (And.intro boolsA (And.intro known10.1 (And.intro known10.2 (And.intro he (And.intro hF (And.intro e1 (And.intro e2 (And.intro e3 (And.intro e4 (And.intro e5 e6))))))))))
    have ha5 := hm.a5
    have hb5 := hm.b5
    have hcr := hf.rows
    have hcw := hf.cols
    obtain ⟨s1, s2, s3, s4⟩ := MC.sums hf
    obtain ⟨m1, m2, m3⟩ := few_most hm w
    have mx := (most_spec hm w).1
    have mu := maxU_bnd hm
    have l1 := partsL_len a b c (maxU a b)
    have p1 := partsL_at a b c (show fewK a b c w ≤ maxU a b by omega)
    have p2 := partsL_at a b c mx
    have pb1 := part_bnd hm _ (show fewK a b c w ≤ maxU a b by omega)
    have pb2 := part_bnd hm _ mx
    have o1 : partV a b c (fewK a b c w) + w * (lsum a + lsum b - 2 * (fewK a b c w : Int)) = looseV a b c w := by rw [lsum_sumL, lsum_sumL]; exact m2
    have o2 : partV a b c (mostK a b c w) + w * (lsum a + lsum b - 2 * (mostK a b c w : Int)) = looseV a b c w := by rw [lsum_sumL, lsum_sumL]; exact m3
    have b1 := mul_bnd hw (x := lsum a + lsum b - 2 * (fewK a b c w : Int)) (by omega)
    have b2 := mul_bnd hw (x := lsum a + lsum b - 2 * (mostK a b c w : Int)) (by omega)
    have hbl := own_best he
    obtain ⟨g1, g2, g3, g4⟩ := step_lo hf (few_spec hm w).1
    have e7 : errPlan (stepP a b c (fewK a b c w)) = 0 := errPlan_0 g1
    have e8 : movE (stepP a b c (fewK a b c w)) = fewK a b c w := (if_pos e7).trans g3
    obtain ⟨w1, w2'⟩ := own_low he
    have k1 : errLC a b c w t = 0 → looseV a b c w ≤ costL a b c w t := loose_cost
    have k2 : errWL a b c w (u, v) = 0 → worthL a b c w (u, v) ≤ looseV a b c w := loose_worth
    have c1 : (mostK a b c w : Int) < (partsL a b c (maxU a b)).length := by omega
    have hnl0 := hnl
    replace hnl := And.intro hnl (And.intro (fun m => eq_true (s1 m)) (And.intro (fun m => eq_true (s2 m)) (And.intro p1 (And.intro p2 (And.intro o1 (And.intro o2 (And.intro hbl (And.intro e7 e8))))))))
    repeat' (first|(refine goK (by assumption) ?_; iterate 4 (try clear hK K))|(refine tri_seqk fun K hK => ?_)|((first|refine tri_region hE rfl ?_|refine tri_ret ?_|((first|refine tri_drawP hE 1 rfl rfl (by kernel_rfl) ?_|refine tri_drawP hE 2 rfl rfl (by kernel_rfl) ?_|refine tri_drawP hE 3 rfl rfl (by kernel_rfl) ?_|refine tri_drawP hE 4 rfl rfl (by kernel_rfl) ?_); simp only [List.length_cons, List.length_nil, Nat.reduceAdd, Nat.reduceSub, List.take_succ_cons, List.take_zero, List.drop_succ_cons, List.drop_zero])); simp +contextual only [hnl, ↓kN, ↓kP, ↓kG, ↓qN, ↓qP, ↓qG, push_cast, Int.reduceEq, Int.reduceLT, Int.reduceLE, Int.reduceNeg, Nat.reduceLT, Nat.reduceLeDiff, Int.reduceToNat, Int.cast_ofNat_Int, Nat.reduceBEq, Nat.reduceMul, Nat.reduceEqDiff, reduceCtorEq, Nat.reduceAdd])|refine tri_block ?_|((first|refine tri_skip ?_|refine tri_exit ?_); simp only [thenQ, blockQ, if_true, if_false, Nat.reduceEqDiff, reduceCtorEq])|(refine tri_cond (by rfl) (fun hb => ?_) (fun hb => ?_) <;> (try simp only [decide_eq_true_eq, decide_eq_false_iff_not, Bool.not_eq_true', Bool.not_eq_false', reduceCtorEq, Bool.true_eq_false, Bool.false_eq_true] at hb) <;> (try omega))|refine tri_unk (by rfl) ?_ ?_|refine And.intro (by first|omega|(unfold InR; omega)|assumption|decide|exact ⟨_, _, rfl⟩) ?_|(refine ⟨fun hc => ?_, fun hc => ?_⟩)|(intro hc; try omega))
    refine tri_loopI (fun k : Nat => AS.of [(1, .I w), (3, .one (.box 3)), (5, .one (.padr (.prod .int (.prod (.sl (.sl .int)) (.prod (.sl .int) (.sl .int)))) (w2, t, u, v))), (9, .I (looseV a b c w)), (18, .one (.box 18)), (22, .I k)] [] [(3, .one (.val (.prod (.sl .int) (.prod (.sl .int) (.sl (.sl .int)))) (a, b, c))), (18, .one (.val (.prod (.sl .int) (.sl .int)) (lpR a b c w)))]) (fun k => k ≤ a.length) (fun k => a.length - k) 0 (Nat.zero_le _) ?_ ?_
    · refine weak_of ?_ ?_ ?_ <;> simp only [push_cast, Int.reduceEq, Int.reduceLT, Int.reduceLE, Int.reduceNeg, Nat.reduceLT, Nat.reduceLeDiff, Int.reduceToNat, Int.cast_ofNat_Int, Nat.reduceBEq, Nat.reduceMul, Nat.reduceEqDiff, reduceCtorEq, Nat.reduceAdd]
      all_goals skip
    intro k hk K' hL
    rcases Nat.lt_or_ge k a.length with hka | hka
    · have wk := w2' k hka
      replace hnl := hnl0
      repeat' (first|(refine goK (by assumption) ?_; iterate 4 (try clear hK K))|(refine tri_seqk fun K hK => ?_)|((first|refine tri_region hE rfl ?_|refine tri_ret ?_|((first|refine tri_drawP hE 1 rfl rfl (by kernel_rfl) ?_|refine tri_drawP hE 2 rfl rfl (by kernel_rfl) ?_|refine tri_drawP hE 3 rfl rfl (by kernel_rfl) ?_|refine tri_drawP hE 4 rfl rfl (by kernel_rfl) ?_); simp only [List.length_cons, List.length_nil, Nat.reduceAdd, Nat.reduceSub, List.take_succ_cons, List.take_zero, List.drop_succ_cons, List.drop_zero])); simp +contextual only [hnl, ↓kN, ↓kP, ↓kG, ↓qN, ↓qP, ↓qG, push_cast, Int.reduceEq, Int.reduceLT, Int.reduceLE, Int.reduceNeg, Nat.reduceLT, Nat.reduceLeDiff, Int.reduceToNat, Int.cast_ofNat_Int, Nat.reduceBEq, Nat.reduceMul, Nat.reduceEqDiff, reduceCtorEq, Nat.reduceAdd])|refine tri_block ?_|((first|refine tri_skip ?_|refine tri_exit ?_); simp only [thenQ, blockQ, if_true, if_false, Nat.reduceEqDiff, reduceCtorEq])|(refine tri_cond (by rfl) (fun hb => ?_) (fun hb => ?_) <;> (try simp only [decide_eq_true_eq, decide_eq_false_iff_not, Bool.not_eq_true', Bool.not_eq_false', reduceCtorEq, Bool.true_eq_false, Bool.false_eq_true] at hb) <;> (try omega))|refine tri_unk (by rfl) ?_ ?_|refine And.intro (by first|omega|(unfold InR; omega)|assumption|decide|exact ⟨_, _, rfl⟩) ?_|(refine ⟨fun hc => ?_, fun hc => ?_⟩)|(intro hc; try omega))
      refine hL _ (k + 1) (by omega) (by omega) ?_
      refine weak_of ?_ ?_ ?_ <;> simp only [push_cast, Int.reduceEq, Int.reduceLT, Int.reduceLE, Int.reduceNeg, Nat.reduceLT, Nat.reduceLeDiff, Int.reduceToNat, Int.cast_ofNat_Int, Nat.reduceBEq, Nat.reduceMul, Nat.reduceEqDiff, reduceCtorEq, Nat.reduceAdd]
      all_goals skip
    obtain rfl : k = a.length := by omega
    clear hL
    replace hnl := And.intro hnl0 (And.intro (fun m => eq_true (s1 m)) (fun m => eq_true (s2 m)))
    by_cases c1 : errLC a b c w t = 0 <;> by_cases c2 : errWL a b c w (u, v) = 0
    all_goals first
      | (replace hnl := And.intro hnl (And.intro (eq_true c1) (And.intro (eq_true c2) (And.intro (eq_false (Int.not_lt.2 (k1 c1))) (eq_false (Int.not_lt.2 (k2 c2)))))))
      | (replace hnl := And.intro hnl (And.intro (eq_true c1) (And.intro (eq_false c2) (eq_false (Int.not_lt.2 (k1 c1))))))
      | (replace hnl := And.intro hnl (And.intro (eq_false c1) (And.intro (eq_true c2) (eq_false (Int.not_lt.2 (k2 c2))))))
      | (replace hnl := And.intro hnl (And.intro (eq_false c1) (eq_false c2)))
    all_goals
      repeat' (first|(refine goK (by assumption) ?_; iterate 4 (try clear hK K))|(refine tri_seqk fun K hK => ?_)|((first|refine tri_region hE rfl ?_|refine tri_ret ?_|((first|refine tri_drawP hE 1 rfl rfl (by kernel_rfl) ?_|refine tri_drawP hE 2 rfl rfl (by kernel_rfl) ?_|refine tri_drawP hE 3 rfl rfl (by kernel_rfl) ?_|refine tri_drawP hE 4 rfl rfl (by kernel_rfl) ?_); simp only [List.length_cons, List.length_nil, Nat.reduceAdd, Nat.reduceSub, List.take_succ_cons, List.take_zero, List.drop_succ_cons, List.drop_zero])); simp +contextual only [hnl, ↓kN, ↓kP, ↓kG, ↓qN, ↓qP, ↓qG, push_cast, Int.reduceEq, Int.reduceLT, Int.reduceLE, Int.reduceNeg, Nat.reduceLT, Nat.reduceLeDiff, Int.reduceToNat, Int.cast_ofNat_Int, Nat.reduceBEq, Nat.reduceMul, Nat.reduceEqDiff, reduceCtorEq, Nat.reduceAdd])|refine tri_block ?_|((first|refine tri_skip ?_|refine tri_exit ?_); simp only [thenQ, blockQ, if_true, if_false, Nat.reduceEqDiff, reduceCtorEq])|(refine tri_cond (by rfl) (fun hb => ?_) (fun hb => ?_) <;> (try simp only [decide_eq_true_eq, decide_eq_false_iff_not, Bool.not_eq_true', Bool.not_eq_false', reduceCtorEq, Bool.true_eq_false, Bool.false_eq_true] at hb) <;> (try omega))|refine tri_unk (by rfl) ?_ ?_|refine And.intro (by first|omega|(unfold InR; omega)|assumption|decide|exact ⟨_, _, rfl⟩) ?_|(refine ⟨fun hc => ?_, fun hc => ?_⟩)|(intro hc; try omega))
      have a5 := okMass_len hf.ha
      have b5 := okMass_len hf.hb
      obtain ⟨z1, z2⟩ := dump_least hf hw (by omega) (by omega) (by omega) (by omega)
      have eX : a ++ [lsum b] = dumA a b 0 := by unfold dumA; rw [Int.sub_zero]
      have eY : b ++ [lsum a] = dumA b a 0 := by unfold dumA; rw [Int.sub_zero]
      have lY : (dumA b a 0).length = b.length + 1 := dumA_len _ _ _
      refine tri_weak (t := AS.of [(1, .I w), (3, .one (.box 3)), (9, .I (looseV a b c w))] [] [(3, .one (.val (.prod (.sl .int) (.prod (.sl .int) (.sl (.sl .int)))) (a, b, c)))]) ?_ ?_
      · refine weak_of ?_ ?_ ?_ <;> simp only [push_cast, Int.reduceEq, Int.reduceLT, Int.reduceLE, Int.reduceNeg, Nat.reduceLT, Nat.reduceLeDiff, Int.reduceToNat, Int.cast_ofNat_Int, Nat.reduceBEq, Nat.reduceMul, Nat.reduceEqDiff, reduceCtorEq, Nat.reduceAdd]
      refine tri_inv hE (fun D s => (D 3 = true → D 0 = true) ∧
        (D 8 = true → D 3 = true) ∧
        (D 18 = true → D 8 = true) ∧
        (D 12 = true → D 9 = true) ∧
        (D 17 = true → D 12 = true) ∧
        (D 19 = true → D 17 = true) ∧
        (∀ q, q ≠ 294 → q ≠ 303 → s.roots q = none) ∧
        (D 0 = true → s.roots 294 = some (.flat 3 .int (if D 8 = true then a ++ [lsum b] else if D 3 = true then a else []))) ∧
        (D 0 = false → s.roots 294 = none) ∧
        (D 9 = true → s.roots 303 = some (.flat 3 .int (if D 17 = true then b ++ [lsum a] else if D 12 = true then b else []))) ∧
        (D 9 = false → s.roots 303 = none) ∧
        s.boxes 3 = some (.one (.val (.prod (.sl .int) (.prod (.sl .int) (.sl (.sl .int)))) (a, b, c))) ∧
        s.env 1 = .one (.val .int w) ∧
        s.env 3 = .one (.box 3) ∧
        s.env 9 = .I (looseV a b c w) ∧
        (D 0 = true → D 3 = false → s.env 294 = .one (.ref 294)) ∧
        (D 1 = true → s.env 295 = .one (.boxf 3 3 0 0)) ∧
        (D 2 = true → s.env 296 = .one (.val (.sl .int) a)) ∧
        (D 3 = true → D 8 = false → s.env 297 = .one (.ref 294)) ∧
        (D 4 = true → s.env 298 = .one (.boxf 3 3 1 1)) ∧
        (D 5 = true → s.env 299 = .one (.val (.sl .int) b)) ∧
        (D 6 = true → s.env 300 = .one (.val .int (lsum b))) ∧
        (D 7 = true → s.env 301 = .one (.val (.sl .int) [lsum b])) ∧
        (D 8 = true → s.env 302 = .one (.ref 294)) ∧
        (D 9 = true → D 12 = false → s.env 303 = .one (.ref 303)) ∧
        (D 10 = true → s.env 304 = .one (.boxf 3 3 1 1)) ∧
        (D 11 = true → s.env 305 = .one (.val (.sl .int) b)) ∧
        (D 12 = true → D 17 = false → s.env 306 = .one (.ref 303)) ∧
        (D 13 = true → s.env 307 = .one (.boxf 3 3 0 0)) ∧
        (D 14 = true → s.env 308 = .one (.val (.sl .int) a)) ∧
        (D 15 = true → s.env 309 = .one (.val .int (lsum a))) ∧
        (D 16 = true → s.env 310 = .one (.val (.sl .int) [lsum a])) ∧
        (D 17 = true → s.env 311 = .one (.ref 303)) ∧
        (D 18 = true → s.env 27 = .one (.ref 294)) ∧
        (D 19 = true → s.env 28 = .one (.ref 303))) rfl (by kernel_rfl) ?_ ?_ ?_
      · dsimp only
        simp only [push_cast, Int.reduceEq, Int.reduceLT, Int.reduceLE, Int.reduceNeg, Nat.reduceLT, Nat.reduceLeDiff, Int.reduceToNat, Int.cast_ofNat_Int, Nat.reduceBEq, Nat.reduceMul, Nat.reduceEqDiff, reduceCtorEq, Nat.reduceAdd]
      · refine ⟨fun D s h0 hp hI => ?_, fun D s h0 hp hI => ?_, fun D s h0 hp hI => ?_, fun D s h0 hp hI => ?_, fun D s h0 hp hI => ?_, fun D s h0 hp hI => ?_, fun D s h0 hp hI => ?_, fun D s h0 hp hI => ?_, fun D s h0 hp hI => ?_, fun D s h0 hp hI => ?_, fun D s h0 hp hI => ?_, fun D s h0 hp hI => ?_, fun D s h0 hp hI => ?_, fun D s h0 hp hI => ?_, fun D s h0 hp hI => ?_, fun D s h0 hp hI => ?_, fun D s h0 hp hI => ?_, fun D s h0 hp hI => ?_, fun D s h0 hp hI => ?_, fun D s h0 hp hI => ?_, trivial⟩
        all_goals obtain ⟨o1, o2, o3, p1, p2, p3, r0, r1, r2, r3, r4, b3, e1, e3, e9, f0, f1, f2, f3, f4, f5, f6, f7, f8, f9, f10, f11, f12, f13, f14, f15, f16, f17, f18, f19⟩ := hI
        all_goals replace hp := List.all_eq_true.1 hp
        · have n3 := contraB o1 h0
          have n8 := contraB o2 n3
          have n18 := contraB o3 n8
          simp +contextual only [n3, n8, n18, hnl, h0, o1, o2, o3, p1, p2, p3, r0, r1, r2, r3, r4, b3, e1, e3, e9, f0, f1, f2, f3, f4, f5, f6, f7, f8, f9, f10, f11, f12, f13, f14, f15, f16, f17, f18, f19, setD, ↓kN, ↓kP, push_cast, Int.reduceEq, Int.reduceLT, Int.reduceLE, Int.reduceNeg, Nat.reduceLT, Nat.reduceLeDiff, Int.reduceToNat, Int.cast_ofNat_Int, Nat.reduceBEq, Nat.reduceMul, Nat.reduceEqDiff, reduceCtorEq, Nat.reduceAdd]
          rfl
        · simp +contextual only [hnl, h0, o1, o2, o3, p1, p2, p3, r0, r1, r2, r3, r4, b3, e1, e3, e9, f0, f1, f2, f3, f4, f5, f6, f7, f8, f9, f10, f11, f12, f13, f14, f15, f16, f17, f18, f19, setD, ↓kN, ↓kP, push_cast, Int.reduceEq, Int.reduceLT, Int.reduceLE, Int.reduceNeg, Nat.reduceLT, Nat.reduceLeDiff, Int.reduceToNat, Int.cast_ofNat_Int, Nat.reduceBEq, Nat.reduceMul, Nat.reduceEqDiff, reduceCtorEq, Nat.reduceAdd]
        · have d1 := hp 1 (by decide)
          simp +contextual only [d1, hnl, h0, o1, o2, o3, p1, p2, p3, r0, r1, r2, r3, r4, b3, e1, e3, e9, f0, f1, f2, f3, f4, f5, f6, f7, f8, f9, f10, f11, f12, f13, f14, f15, f16, f17, f18, f19, setD, ↓kN, ↓kP, push_cast, Int.reduceEq, Int.reduceLT, Int.reduceLE, Int.reduceNeg, Nat.reduceLT, Nat.reduceLeDiff, Int.reduceToNat, Int.cast_ofNat_Int, Nat.reduceBEq, Nat.reduceMul, Nat.reduceEqDiff, reduceCtorEq, Nat.reduceAdd]
        · have d0 := hp 0 (by decide)
          have d2 := hp 2 (by decide)
          have n8 := contraB o2 h0
          have n18 := contraB o3 n8
          simp +contextual only [d0, d2, n8, n18, hnl, h0, o1, o2, o3, p1, p2, p3, r0, r1, r2, r3, r4, b3, e1, e3, e9, f0, f1, f2, f3, f4, f5, f6, f7, f8, f9, f10, f11, f12, f13, f14, f15, f16, f17, f18, f19, setD, ↓kN, ↓kP, push_cast, Int.reduceEq, Int.reduceLT, Int.reduceLE, Int.reduceNeg, Nat.reduceLT, Nat.reduceLeDiff, Int.reduceToNat, Int.cast_ofNat_Int, Nat.reduceBEq, Nat.reduceMul, Nat.reduceEqDiff, reduceCtorEq, Nat.reduceAdd]
          first | omega | exact ⟨by omega, by omega⟩
        · simp +contextual only [hnl, h0, o1, o2, o3, p1, p2, p3, r0, r1, r2, r3, r4, b3, e1, e3, e9, f0, f1, f2, f3, f4, f5, f6, f7, f8, f9, f10, f11, f12, f13, f14, f15, f16, f17, f18, f19, setD, ↓kN, ↓kP, push_cast, Int.reduceEq, Int.reduceLT, Int.reduceLE, Int.reduceNeg, Nat.reduceLT, Nat.reduceLeDiff, Int.reduceToNat, Int.cast_ofNat_Int, Nat.reduceBEq, Nat.reduceMul, Nat.reduceEqDiff, reduceCtorEq, Nat.reduceAdd]
        · have d4 := hp 4 (by decide)
          simp +contextual only [d4, hnl, h0, o1, o2, o3, p1, p2, p3, r0, r1, r2, r3, r4, b3, e1, e3, e9, f0, f1, f2, f3, f4, f5, f6, f7, f8, f9, f10, f11, f12, f13, f14, f15, f16, f17, f18, f19, setD, ↓kN, ↓kP, push_cast, Int.reduceEq, Int.reduceLT, Int.reduceLE, Int.reduceNeg, Nat.reduceLT, Nat.reduceLeDiff, Int.reduceToNat, Int.cast_ofNat_Int, Nat.reduceBEq, Nat.reduceMul, Nat.reduceEqDiff, reduceCtorEq, Nat.reduceAdd]
        · have d5 := hp 5 (by decide)
          simp +contextual only [d5, hnl, h0, o1, o2, o3, p1, p2, p3, r0, r1, r2, r3, r4, b3, e1, e3, e9, f0, f1, f2, f3, f4, f5, f6, f7, f8, f9, f10, f11, f12, f13, f14, f15, f16, f17, f18, f19, setD, ↓kN, ↓kP, push_cast, Int.reduceEq, Int.reduceLT, Int.reduceLE, Int.reduceNeg, Nat.reduceLT, Nat.reduceLeDiff, Int.reduceToNat, Int.cast_ofNat_Int, Nat.reduceBEq, Nat.reduceMul, Nat.reduceEqDiff, reduceCtorEq, Nat.reduceAdd]
        · have d6 := hp 6 (by decide)
          simp +contextual only [d6, hnl, h0, o1, o2, o3, p1, p2, p3, r0, r1, r2, r3, r4, b3, e1, e3, e9, f0, f1, f2, f3, f4, f5, f6, f7, f8, f9, f10, f11, f12, f13, f14, f15, f16, f17, f18, f19, setD, ↓kN, ↓kP, push_cast, Int.reduceEq, Int.reduceLT, Int.reduceLE, Int.reduceNeg, Nat.reduceLT, Nat.reduceLeDiff, Int.reduceToNat, Int.cast_ofNat_Int, Nat.reduceBEq, Nat.reduceMul, Nat.reduceEqDiff, reduceCtorEq, Nat.reduceAdd]
          rfl
        · have d3 := hp 3 (by decide)
          have d7 := hp 7 (by decide)
          have n18 := contraB o3 h0
          have d0 := o1 d3
          simp +contextual only [d3, d7, n18, d0, hnl, h0, o1, o2, o3, p1, p2, p3, r0, r1, r2, r3, r4, b3, e1, e3, e9, f0, f1, f2, f3, f4, f5, f6, f7, f8, f9, f10, f11, f12, f13, f14, f15, f16, f17, f18, f19, setD, ↓kN, ↓kP, push_cast, Int.reduceEq, Int.reduceLT, Int.reduceLE, Int.reduceNeg, Nat.reduceLT, Nat.reduceLeDiff, Int.reduceToNat, Int.cast_ofNat_Int, Nat.reduceBEq, Nat.reduceMul, Nat.reduceEqDiff, reduceCtorEq, Nat.reduceAdd]
          first | omega | exact ⟨by omega, by omega⟩
        · have n12 := contraB p1 h0
          have n17 := contraB p2 n12
          have n19 := contraB p3 n17
          simp +contextual only [n12, n17, n19, hnl, h0, o1, o2, o3, p1, p2, p3, r0, r1, r2, r3, r4, b3, e1, e3, e9, f0, f1, f2, f3, f4, f5, f6, f7, f8, f9, f10, f11, f12, f13, f14, f15, f16, f17, f18, f19, setD, ↓kN, ↓kP, push_cast, Int.reduceEq, Int.reduceLT, Int.reduceLE, Int.reduceNeg, Nat.reduceLT, Nat.reduceLeDiff, Int.reduceToNat, Int.cast_ofNat_Int, Nat.reduceBEq, Nat.reduceMul, Nat.reduceEqDiff, reduceCtorEq, Nat.reduceAdd]
          rfl
        · simp +contextual only [hnl, h0, o1, o2, o3, p1, p2, p3, r0, r1, r2, r3, r4, b3, e1, e3, e9, f0, f1, f2, f3, f4, f5, f6, f7, f8, f9, f10, f11, f12, f13, f14, f15, f16, f17, f18, f19, setD, ↓kN, ↓kP, push_cast, Int.reduceEq, Int.reduceLT, Int.reduceLE, Int.reduceNeg, Nat.reduceLT, Nat.reduceLeDiff, Int.reduceToNat, Int.cast_ofNat_Int, Nat.reduceBEq, Nat.reduceMul, Nat.reduceEqDiff, reduceCtorEq, Nat.reduceAdd]
        · have d10 := hp 10 (by decide)
          simp +contextual only [d10, hnl, h0, o1, o2, o3, p1, p2, p3, r0, r1, r2, r3, r4, b3, e1, e3, e9, f0, f1, f2, f3, f4, f5, f6, f7, f8, f9, f10, f11, f12, f13, f14, f15, f16, f17, f18, f19, setD, ↓kN, ↓kP, push_cast, Int.reduceEq, Int.reduceLT, Int.reduceLE, Int.reduceNeg, Nat.reduceLT, Nat.reduceLeDiff, Int.reduceToNat, Int.cast_ofNat_Int, Nat.reduceBEq, Nat.reduceMul, Nat.reduceEqDiff, reduceCtorEq, Nat.reduceAdd]
        · have d9 := hp 9 (by decide)
          have d11 := hp 11 (by decide)
          have n17 := contraB p2 h0
          have n19 := contraB p3 n17
          simp +contextual only [d9, d11, n17, n19, hnl, h0, o1, o2, o3, p1, p2, p3, r0, r1, r2, r3, r4, b3, e1, e3, e9, f0, f1, f2, f3, f4, f5, f6, f7, f8, f9, f10, f11, f12, f13, f14, f15, f16, f17, f18, f19, setD, ↓kN, ↓kP, push_cast, Int.reduceEq, Int.reduceLT, Int.reduceLE, Int.reduceNeg, Nat.reduceLT, Nat.reduceLeDiff, Int.reduceToNat, Int.cast_ofNat_Int, Nat.reduceBEq, Nat.reduceMul, Nat.reduceEqDiff, reduceCtorEq, Nat.reduceAdd]
          first | omega | exact ⟨by omega, by omega⟩
        · simp +contextual only [hnl, h0, o1, o2, o3, p1, p2, p3, r0, r1, r2, r3, r4, b3, e1, e3, e9, f0, f1, f2, f3, f4, f5, f6, f7, f8, f9, f10, f11, f12, f13, f14, f15, f16, f17, f18, f19, setD, ↓kN, ↓kP, push_cast, Int.reduceEq, Int.reduceLT, Int.reduceLE, Int.reduceNeg, Nat.reduceLT, Nat.reduceLeDiff, Int.reduceToNat, Int.cast_ofNat_Int, Nat.reduceBEq, Nat.reduceMul, Nat.reduceEqDiff, reduceCtorEq, Nat.reduceAdd]
        · have d13 := hp 13 (by decide)
          simp +contextual only [d13, hnl, h0, o1, o2, o3, p1, p2, p3, r0, r1, r2, r3, r4, b3, e1, e3, e9, f0, f1, f2, f3, f4, f5, f6, f7, f8, f9, f10, f11, f12, f13, f14, f15, f16, f17, f18, f19, setD, ↓kN, ↓kP, push_cast, Int.reduceEq, Int.reduceLT, Int.reduceLE, Int.reduceNeg, Nat.reduceLT, Nat.reduceLeDiff, Int.reduceToNat, Int.cast_ofNat_Int, Nat.reduceBEq, Nat.reduceMul, Nat.reduceEqDiff, reduceCtorEq, Nat.reduceAdd]
        · have d14 := hp 14 (by decide)
          simp +contextual only [d14, hnl, h0, o1, o2, o3, p1, p2, p3, r0, r1, r2, r3, r4, b3, e1, e3, e9, f0, f1, f2, f3, f4, f5, f6, f7, f8, f9, f10, f11, f12, f13, f14, f15, f16, f17, f18, f19, setD, ↓kN, ↓kP, push_cast, Int.reduceEq, Int.reduceLT, Int.reduceLE, Int.reduceNeg, Nat.reduceLT, Nat.reduceLeDiff, Int.reduceToNat, Int.cast_ofNat_Int, Nat.reduceBEq, Nat.reduceMul, Nat.reduceEqDiff, reduceCtorEq, Nat.reduceAdd]
        · have d15 := hp 15 (by decide)
          simp +contextual only [d15, hnl, h0, o1, o2, o3, p1, p2, p3, r0, r1, r2, r3, r4, b3, e1, e3, e9, f0, f1, f2, f3, f4, f5, f6, f7, f8, f9, f10, f11, f12, f13, f14, f15, f16, f17, f18, f19, setD, ↓kN, ↓kP, push_cast, Int.reduceEq, Int.reduceLT, Int.reduceLE, Int.reduceNeg, Nat.reduceLT, Nat.reduceLeDiff, Int.reduceToNat, Int.cast_ofNat_Int, Nat.reduceBEq, Nat.reduceMul, Nat.reduceEqDiff, reduceCtorEq, Nat.reduceAdd]
          rfl
        · have d12 := hp 12 (by decide)
          have d16 := hp 16 (by decide)
          have n19 := contraB p3 h0
          have d9 := p1 d12
          simp +contextual only [d12, d16, n19, d9, hnl, h0, o1, o2, o3, p1, p2, p3, r0, r1, r2, r3, r4, b3, e1, e3, e9, f0, f1, f2, f3, f4, f5, f6, f7, f8, f9, f10, f11, f12, f13, f14, f15, f16, f17, f18, f19, setD, ↓kN, ↓kP, push_cast, Int.reduceEq, Int.reduceLT, Int.reduceLE, Int.reduceNeg, Nat.reduceLT, Nat.reduceLeDiff, Int.reduceToNat, Int.cast_ofNat_Int, Nat.reduceBEq, Nat.reduceMul, Nat.reduceEqDiff, reduceCtorEq, Nat.reduceAdd]
          first | omega | exact ⟨by omega, by omega⟩
        · have d8 := hp 8 (by decide)
          have d3 := o2 d8
          have d0 := o1 d3
          simp +contextual only [d8, d3, d0, hnl, h0, o1, o2, o3, p1, p2, p3, r0, r1, r2, r3, r4, b3, e1, e3, e9, f0, f1, f2, f3, f4, f5, f6, f7, f8, f9, f10, f11, f12, f13, f14, f15, f16, f17, f18, f19, setD, ↓kN, ↓kP, push_cast, Int.reduceEq, Int.reduceLT, Int.reduceLE, Int.reduceNeg, Nat.reduceLT, Nat.reduceLeDiff, Int.reduceToNat, Int.cast_ofNat_Int, Nat.reduceBEq, Nat.reduceMul, Nat.reduceEqDiff, reduceCtorEq, Nat.reduceAdd]
        · have d17 := hp 17 (by decide)
          have d12 := p2 d17
          have d9 := p1 d12
          simp +contextual only [d17, d12, d9, hnl, h0, o1, o2, o3, p1, p2, p3, r0, r1, r2, r3, r4, b3, e1, e3, e9, f0, f1, f2, f3, f4, f5, f6, f7, f8, f9, f10, f11, f12, f13, f14, f15, f16, f17, f18, f19, setD, ↓kN, ↓kP, push_cast, Int.reduceEq, Int.reduceLT, Int.reduceLE, Int.reduceNeg, Nat.reduceLT, Nat.reduceLeDiff, Int.reduceToNat, Int.cast_ofNat_Int, Nat.reduceBEq, Nat.reduceMul, Nat.reduceEqDiff, reduceCtorEq, Nat.reduceAdd]
      intro D s hD hI
      obtain ⟨o1, o2, o3, p1, p2, p3, r0, r1, r2, r3, r4, b3, e1, e3, e9, f0, f1, f2, f3, f4, f5, f6, f7, f8, f9, f10, f11, f12, f13, f14, f15, f16, f17, f18, f19⟩ := hI
      have g0 := hD 0 (by decide)
      have g8 := hD 8 (by decide)
      have g9 := hD 9 (by decide)
      have g17 := hD 17 (by decide)
      have g18 := hD 18 (by decide)
      have g19 := hD 19 (by decide)
      have v1 := r1 g0
      have v2 := r3 g9
      rw [if_pos g8, eX] at v1
      rw [if_pos g17, eY] at v2
      have v3 := f18 g18
      have v4 := f19 g19
      refine goK hK ?_
      refine tri_weak (t := AS.of [(1, .I w), (3, .one (.box 3)), (9, .I (looseV a b c w)), (27, .one (.ref 294)), (28, .one (.ref 303))] [(294, .flat 3 .int (dumA a b 0)), (303, .flat 3 .int (dumA b a 0))] [(3, .one (.val (.prod (.sl .int) (.prod (.sl .int) (.sl (.sl .int)))) (a, b, c)))]) ?_ ?_
      · refine weak_of ?_ ?_ ?_ <;> simp only [v1, v2, v3, v4, b3, e1, e3, e9, push_cast, Int.reduceEq, Int.reduceLT, Int.reduceLE, Int.reduceNeg, Nat.reduceLT, Nat.reduceLeDiff, Int.reduceToNat, Int.cast_ofNat_Int, Nat.reduceBEq, Nat.reduceMul, Nat.reduceEqDiff, reduceCtorEq, Nat.reduceAdd]
      clear hK hD
      replace hnl := And.intro hnl0 (And.intro lY (And.intro z1 z2))
      repeat' (first|(refine goK (by assumption) ?_; iterate 4 (try clear hK K))|(refine tri_seqk fun K hK => ?_)|((first|refine tri_region hE rfl ?_|refine tri_ret ?_|((first|refine tri_drawP hE 1 rfl rfl (by kernel_rfl) ?_|refine tri_drawP hE 2 rfl rfl (by kernel_rfl) ?_|refine tri_drawP hE 3 rfl rfl (by kernel_rfl) ?_|refine tri_drawP hE 4 rfl rfl (by kernel_rfl) ?_); simp only [List.length_cons, List.length_nil, Nat.reduceAdd, Nat.reduceSub, List.take_succ_cons, List.take_zero, List.drop_succ_cons, List.drop_zero])); simp +contextual only [hnl, ↓kN, ↓kP, ↓kG, ↓qN, ↓qP, ↓qG, push_cast, Int.reduceEq, Int.reduceLT, Int.reduceLE, Int.reduceNeg, Nat.reduceLT, Nat.reduceLeDiff, Int.reduceToNat, Int.cast_ofNat_Int, Nat.reduceBEq, Nat.reduceMul, Nat.reduceEqDiff, reduceCtorEq, Nat.reduceAdd])|refine tri_block ?_|((first|refine tri_skip ?_|refine tri_exit ?_); simp only [thenQ, blockQ, if_true, if_false, Nat.reduceEqDiff, reduceCtorEq])|(refine tri_cond (by rfl) (fun hb => ?_) (fun hb => ?_) <;> (try simp only [decide_eq_true_eq, decide_eq_false_iff_not, Bool.not_eq_true', Bool.not_eq_false', reduceCtorEq, Bool.true_eq_false, Bool.false_eq_true] at hb) <;> (try omega))|refine tri_unk (by rfl) ?_ ?_|refine And.intro (by first|omega|(unfold InR; omega)|assumption|decide|exact ⟨_, _, rfl⟩) ?_|(refine ⟨fun hc => ?_, fun hc => ?_⟩)|(intro hc; try omega))
      refine tri_loopI (fun k : Nat => AS.of [(1, .I w), (3, .one (.box 3)), (9, .I (looseV a b c w)), (27, .one (.ref 294)), (28, .one (.ref 303)), (29, .one (.ref 331)), (30, .I k)] [(294, .flat 3 .int (dumA a b 0)), (303, .flat 3 .int (dumA b a 0)), (331, .deep 22 3 .int ((c.take k).map fun r => r ++ [w]))] [(3, .one (.val (.prod (.sl .int) (.prod (.sl .int) (.sl (.sl .int)))) (a, b, c)))]) (fun k => k ≤ c.length) (fun k => c.length - k) 0 (Nat.zero_le _) ?_ ?_
      · refine weak_of ?_ ?_ ?_ <;> simp only [push_cast, Int.reduceEq, Int.reduceLT, Int.reduceLE, Int.reduceNeg, Nat.reduceLT, Nat.reduceLeDiff, Int.reduceToNat, Int.cast_ofNat_Int, Nat.reduceBEq, Nat.reduceMul, Nat.reduceEqDiff, reduceCtorEq, Nat.reduceAdd]
        all_goals first | exact ⟨by omega, rfl⟩ | omega | rfl
      intro k hkc K5 hL5
      rcases Nat.lt_or_ge k c.length with hkl | hkl
      · have hrow : (c.getD k []).length = wid c := hf.hc.len hkl
        have hml : (List.map (fun r => r ++ [w]) (List.take k c)).length ≤ 1000000 := by rw [List.length_map, List.length_take]; omega
        have hms : List.map (fun r => r ++ [w]) (List.take k c) ++ [c.getD k [] ++ [w]] = List.map (fun r => r ++ [w]) (List.take (k + 1) c) := by
          rw [List.take_succ_eq_append_getElem hkl, List.map_append]
          simp [List.getD_eq_getElem?_getD, hkl]
        have hrl2 : List.length (c.getD k []) ≤ 1000000 := by rw [hrow]; omega
        replace hnl := And.intro hnl (And.intro hrl2 hml)
        repeat' (first|(refine goK (by assumption) ?_; iterate 4 (try clear hK K))|(refine tri_seqk fun K hK => ?_)|((first|refine tri_region hE rfl ?_|refine tri_ret ?_|((first|refine tri_drawP hE 1 rfl rfl (by kernel_rfl) ?_|refine tri_drawP hE 2 rfl rfl (by kernel_rfl) ?_|refine tri_drawP hE 3 rfl rfl (by kernel_rfl) ?_|refine tri_drawP hE 4 rfl rfl (by kernel_rfl) ?_); simp only [List.length_cons, List.length_nil, Nat.reduceAdd, Nat.reduceSub, List.take_succ_cons, List.take_zero, List.drop_succ_cons, List.drop_zero])); simp +contextual only [hnl, ↓kN, ↓kP, ↓kG, ↓qN, ↓qP, ↓qG, push_cast, Int.reduceEq, Int.reduceLT, Int.reduceLE, Int.reduceNeg, Nat.reduceLT, Nat.reduceLeDiff, Int.reduceToNat, Int.cast_ofNat_Int, Nat.reduceBEq, Nat.reduceMul, Nat.reduceEqDiff, reduceCtorEq, Nat.reduceAdd])|refine tri_block ?_|((first|refine tri_skip ?_|refine tri_exit ?_); simp only [thenQ, blockQ, if_true, if_false, Nat.reduceEqDiff, reduceCtorEq])|(refine tri_cond (by rfl) (fun hb => ?_) (fun hb => ?_) <;> (try simp only [decide_eq_true_eq, decide_eq_false_iff_not, Bool.not_eq_true', Bool.not_eq_false', reduceCtorEq, Bool.true_eq_false, Bool.false_eq_true] at hb) <;> (try omega))|refine tri_unk (by rfl) ?_ ?_|refine And.intro (by first|omega|(unfold InR; omega)|assumption|decide|exact ⟨_, _, rfl⟩) ?_|(refine ⟨fun hc => ?_, fun hc => ?_⟩)|(intro hc; try omega))
        rw [hms]
        refine hL5 _ (k + 1) (by omega) (by omega) ?_
        refine weak_of ?_ ?_ ?_ <;> simp only [push_cast, Int.reduceEq, Int.reduceLT, Int.reduceLE, Int.reduceNeg, Nat.reduceLT, Nat.reduceLeDiff, Int.reduceToNat, Int.cast_ofNat_Int, Nat.reduceBEq, Nat.reduceMul, Nat.reduceEqDiff, reduceCtorEq, Nat.reduceAdd]
        all_goals exact .inl rfl
      obtain rfl : k = c.length := by omega
      clear hL5
      repeat' (first|(refine goK (by assumption) ?_; iterate 4 (try clear hK K))|(refine tri_seqk fun K hK => ?_)|((first|refine tri_region hE rfl ?_|refine tri_ret ?_|((first|refine tri_drawP hE 1 rfl rfl (by kernel_rfl) ?_|refine tri_drawP hE 2 rfl rfl (by kernel_rfl) ?_|refine tri_drawP hE 3 rfl rfl (by kernel_rfl) ?_|refine tri_drawP hE 4 rfl rfl (by kernel_rfl) ?_); simp only [List.length_cons, List.length_nil, Nat.reduceAdd, Nat.reduceSub, List.take_succ_cons, List.take_zero, List.drop_succ_cons, List.drop_zero])); simp +contextual only [hnl, ↓kN, ↓kP, ↓kG, ↓qN, ↓qP, ↓qG, push_cast, Int.reduceEq, Int.reduceLT, Int.reduceLE, Int.reduceNeg, Nat.reduceLT, Nat.reduceLeDiff, Int.reduceToNat, Int.cast_ofNat_Int, Nat.reduceBEq, Nat.reduceMul, Nat.reduceEqDiff, reduceCtorEq, Nat.reduceAdd])|refine tri_block ?_|((first|refine tri_skip ?_|refine tri_exit ?_); simp only [thenQ, blockQ, if_true, if_false, Nat.reduceEqDiff, reduceCtorEq])|(refine tri_cond (by rfl) (fun hb => ?_) (fun hb => ?_) <;> (try simp only [decide_eq_true_eq, decide_eq_false_iff_not, Bool.not_eq_true', Bool.not_eq_false', reduceCtorEq, Bool.true_eq_false, Bool.false_eq_true] at hb) <;> (try omega))|refine tri_unk (by rfl) ?_ ?_|refine And.intro (by first|omega|(unfold InR; omega)|assumption|decide|exact ⟨_, _, rfl⟩) ?_|(refine ⟨fun hc => ?_, fun hc => ?_⟩)|(intro hc; try omega))
      refine tri_loopI (fun k : Nat => AS.of [(1, .I w), (3, .one (.box 3)), (9, .I (looseV a b c w)), (27, .one (.ref 294)), (28, .one (.ref 303)), (29, .one (.ref 331)), (31, .one (.ref 334)), (32, .I k)] [(294, .flat 3 .int (dumA a b 0)), (303, .flat 3 .int (dumA b a 0)), (331, .deep 22 3 .int ((c.take c.length).map fun r => r ++ [w])), (334, .flat 3 .int (fillR (b.length + 1) k w))] [(3, .one (.val (.prod (.sl .int) (.prod (.sl .int) (.sl (.sl .int)))) (a, b, c)))]) (fun k => k ≤ b.length) (fun k => b.length - k) 0 (Nat.zero_le _) ?_ ?_
      · rw [← fillR_0]
        refine weak_of ?_ ?_ ?_ <;> simp only [push_cast, Int.reduceEq, Int.reduceLT, Int.reduceLE, Int.reduceNeg, Nat.reduceLT, Nat.reduceLeDiff, Int.reduceToNat, Int.cast_ofNat_Int, Nat.reduceBEq, Nat.reduceMul, Nat.reduceEqDiff, reduceCtorEq, Nat.reduceAdd]
        all_goals exact .inl (by rw [show ((b.length : Int) + 1).toNat = b.length + 1 by omega])
      intro k hkb K6 hL6
      have lF := fillR_len (b.length + 1) k w
      have sF := fillR_set (b.length + 1) k w
      rcases Nat.lt_or_ge k b.length with hkl | hkl
      · replace hnl := And.intro hnl sF
        repeat' (first|(refine goK (by assumption) ?_; iterate 4 (try clear hK K))|(refine tri_seqk fun K hK => ?_)|((first|refine tri_region hE rfl ?_|refine tri_ret ?_|((first|refine tri_drawP hE 1 rfl rfl (by kernel_rfl) ?_|refine tri_drawP hE 2 rfl rfl (by kernel_rfl) ?_|refine tri_drawP hE 3 rfl rfl (by kernel_rfl) ?_|refine tri_drawP hE 4 rfl rfl (by kernel_rfl) ?_); simp only [List.length_cons, List.length_nil, Nat.reduceAdd, Nat.reduceSub, List.take_succ_cons, List.take_zero, List.drop_succ_cons, List.drop_zero])); simp +contextual only [hnl, ↓kN, ↓kP, ↓kG, ↓qN, ↓qP, ↓qG, push_cast, Int.reduceEq, Int.reduceLT, Int.reduceLE, Int.reduceNeg, Nat.reduceLT, Nat.reduceLeDiff, Int.reduceToNat, Int.cast_ofNat_Int, Nat.reduceBEq, Nat.reduceMul, Nat.reduceEqDiff, reduceCtorEq, Nat.reduceAdd])|refine tri_block ?_|((first|refine tri_skip ?_|refine tri_exit ?_); simp only [thenQ, blockQ, if_true, if_false, Nat.reduceEqDiff, reduceCtorEq])|(refine tri_cond (by rfl) (fun hb => ?_) (fun hb => ?_) <;> (try simp only [decide_eq_true_eq, decide_eq_false_iff_not, Bool.not_eq_true', Bool.not_eq_false', reduceCtorEq, Bool.true_eq_false, Bool.false_eq_true] at hb) <;> (try omega))|refine tri_unk (by rfl) ?_ ?_|refine And.intro (by first|omega|(unfold InR; omega)|assumption|decide|exact ⟨_, _, rfl⟩) ?_|(refine ⟨fun hc => ?_, fun hc => ?_⟩)|(intro hc; try omega))
        refine hL6 _ (k + 1) (by omega) (by omega) ?_
        refine weak_of ?_ ?_ ?_ <;> simp only [push_cast, Int.reduceEq, Int.reduceLT, Int.reduceLE, Int.reduceNeg, Nat.reduceLT, Nat.reduceLeDiff, Int.reduceToNat, Int.cast_ofNat_Int, Nat.reduceBEq, Nat.reduceMul, Nat.reduceEqDiff, reduceCtorEq, Nat.reduceAdd]
        all_goals exact .inl rfl
      obtain rfl : k = b.length := by omega
      clear hL6
      have hml : (List.map (fun r => r ++ [w]) (List.take c.length c)).length ≤ 1000000 := by rw [List.length_map, List.length_take]; omega
      have eT : List.map (fun r => r ++ [w]) (List.take c.length c) ++ [fillR (b.length + 1) b.length w] = lpT c w := by unfold lpT dumC; rw [List.take_length, hcw, fillR_all]
      replace hnl := And.intro hnl (And.intro hml eT)
      repeat' (first|(refine goK (by assumption) ?_; iterate 4 (try clear hK K))|(refine tri_seqk fun K hK => ?_)|((first|refine tri_region hE rfl ?_|refine tri_ret ?_|((first|refine tri_drawP hE 1 rfl rfl (by kernel_rfl) ?_|refine tri_drawP hE 2 rfl rfl (by kernel_rfl) ?_|refine tri_drawP hE 3 rfl rfl (by kernel_rfl) ?_|refine tri_drawP hE 4 rfl rfl (by kernel_rfl) ?_); simp only [List.length_cons, List.length_nil, Nat.reduceAdd, Nat.reduceSub, List.take_succ_cons, List.take_zero, List.drop_succ_cons, List.drop_zero])); simp +contextual only [hnl, ↓kN, ↓kP, ↓kG, ↓qN, ↓qP, ↓qG, push_cast, Int.reduceEq, Int.reduceLT, Int.reduceLE, Int.reduceNeg, Nat.reduceLT, Nat.reduceLeDiff, Int.reduceToNat, Int.cast_ofNat_Int, Nat.reduceBEq, Nat.reduceMul, Nat.reduceEqDiff, reduceCtorEq, Nat.reduceAdd])|refine tri_block ?_|((first|refine tri_skip ?_|refine tri_exit ?_); simp only [thenQ, blockQ, if_true, if_false, Nat.reduceEqDiff, reduceCtorEq])|(refine tri_cond (by rfl) (fun hb => ?_) (fun hb => ?_) <;> (try simp only [decide_eq_true_eq, decide_eq_false_iff_not, Bool.not_eq_true', Bool.not_eq_false', reduceCtorEq, Bool.true_eq_false, Bool.false_eq_true] at hb) <;> (try omega))|refine tri_unk (by rfl) ?_ ?_|refine And.intro (by first|omega|(unfold InR; omega)|assumption|decide|exact ⟨_, _, rfl⟩) ?_|(refine ⟨fun hc => ?_, fun hc => ?_⟩)|(intro hc; try omega))
      all_goals skip
  · have e1 : looseE a b c w = 0 := if_neg he
    replace hnl := And.intro hnl (And.intro boolsA (And.intro known10.1 (And.intro known10.2 (And.intro (eq_false he) e1))))
    repeat' (first|(refine goK (by assumption) ?_; iterate 4 (try clear hK K))|(refine tri_seqk fun K hK => ?_)|((first|refine tri_region hE rfl ?_|refine tri_ret ?_|((first|refine tri_drawP hE 1 rfl rfl (by kernel_rfl) ?_|refine tri_drawP hE 2 rfl rfl (by kernel_rfl) ?_|refine tri_drawP hE 3 rfl rfl (by kernel_rfl) ?_|refine tri_drawP hE 4 rfl rfl (by kernel_rfl) ?_); simp only [List.length_cons, List.length_nil, Nat.reduceAdd, Nat.reduceSub, List.take_succ_cons, List.take_zero, List.drop_succ_cons, List.drop_zero])); simp +contextual only [hnl, ↓kN, ↓kP, ↓kG, ↓qN, ↓qP, ↓qG, push_cast, Int.reduceEq, Int.reduceLT, Int.reduceLE, Int.reduceNeg, Nat.reduceLT, Nat.reduceLeDiff, Int.reduceToNat, Int.cast_ofNat_Int, Nat.reduceBEq, Nat.reduceMul, Nat.reduceEqDiff, reduceCtorEq, Nat.reduceAdd])|refine tri_block ?_|((first|refine tri_skip ?_|refine tri_exit ?_); simp only [thenQ, blockQ, if_true, if_false, Nat.reduceEqDiff, reduceCtorEq])|(refine tri_cond (by rfl) (fun hb => ?_) (fun hb => ?_) <;> (try simp only [decide_eq_true_eq, decide_eq_false_iff_not, Bool.not_eq_true', Bool.not_eq_false', reduceCtorEq, Bool.true_eq_false, Bool.false_eq_true] at hb) <;> (try omega))|refine tri_unk (by rfl) ?_ ?_|refine And.intro (by first|omega|(unfold InR; omega)|assumption|decide|exact ⟨_, _, rfl⟩) ?_|(refine ⟨fun hc => ?_, fun hc => ?_⟩)|(intro hc; try omega))
    all_goals skip
end Go.Proofs.Ytogopoiohckpdae
