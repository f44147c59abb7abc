/- The statement TopPrices: for every job, plan and tolls. No condition. -/
import Derived.Test.YtpfkipccbgdkjacRa
import Derived.Test.YtpfkipccbgdkjacRb
import Derived.Test.YtpfkipccbgdkjacKk
import Derived.Test.YtpfkipccbgdkjacKv
namespace Go.Proofs.Ytpfkipccbgdkjac
open Go.RowKit Go.VS Go.OT Go.LC
set_option linter.unusedSimpArgs false
set_option linter.unusedVariables false

theorem next_known : nxV [0, 1] [1, 0] [[1, 4], [2, 3]] 0 1 = 2 ∧ errNx [0, 1] [1, 0] [[1, 4], [2, 3]] 0 1 = 0 := by decide +kernel
theorem bools : (true != true) = false ∧ (false != false) = false ∧ (!true) = false ∧ (!false) = true ∧ (false == false) = true ∧ (true == true) = true ∧ (true == false) = false ∧ (false == true) = false ∧ (∀ n : Int, decide (n = n) = true) ∧ (∀ p : Prop, (False ∧ p) = False) ∧ (∀ p : Prop, (p ∧ False) = False) ∧ (∀ i : Decidable False, @decide False i = false) :=
  ⟨rfl, rfl, rfl, rfl, rfl, rfl, rfl, rfl, fun n => decide_eq_true rfl, fun p => false_and p, fun p => and_false p, fun i => decide_eq_false id⟩

/-- What the walk needs of a plan. -/
structure TopI (a b : List Int) (c T : List (List Int)) : Prop where
  pl : errPlan T = 0
  sp : errSpend c T = 0
  le : (spendV c T < leastV a b c) = False
  lk : linksE T = lkV T
  el : errLinks c (lkV T) = 0
  rd : roundR c (lkV T) = roundL c (lkV T)
theorem topI {a b : List Int} {c T : List (List Int)} (hf : errFits a b c = 0) (h : errCheck a b T = 0) : TopI a b c T := by
  obtain ⟨k1, k2, k3, k4, _⟩ := check_plan h
  have hp := errPlan_0 k4
  obtain ⟨l1, _⟩ := plan_links hf h
  exact ⟨hp, (check_spend hf h).1, eq_false (by have := plan_least hf h; omega), if_pos hp, l1, if_pos l1⟩
theorem top_yes {a b : List Int} {c T : List (List Int)} (hf : errFits a b c = 0) (h : errCheck a b T = 0) (hn : CycP c (lkV T)) : spendV c T = leastV a b c ∧ errBest a b c T (pricesV a b c) = 0 ∧ roundL c (lkV T) = [] ∧ CycP c (lkV T) = True := by
  have h1 := (plan_links hf h).2.2.1 hn
  exact ⟨h1, (plan_proved hf h).2 h1, roundL_nil hn, eq_true hn⟩
theorem top_no {a b : List Int} {c T : List (List Int)} (hf : errFits a b c = 0) (h : errCheck a b T = 0) (hn : ¬ CycP c (lkV T)) : (spendV c T = leastV a b c) = False ∧ (errBest a b c T (pricesV a b c) = 0) = False ∧ (0 < (roundL c (lkV T)).length) = True ∧ CycP c (lkV T) = False ∧ errRound c (lkV T) (roundL c (lkV T)) = 0 ∧ (roundV c (lkV T) (roundL c (lkV T)) < 1) = False ∧ (spendV c T - leastV a b c < roundV c (lkV T) (roundL c (lkV T))) = False := by
  have h0 : ¬ spendV c T = leastV a b c := fun h1 => hn ((plan_links hf h).2.2.2 h1)
  obtain ⟨g1, g2, g3, g4⟩ := plan_gain hf h hn
  exact ⟨eq_false h0, eq_false fun h1 => h0 ((plan_proved hf h).1 h1), eq_true g4, eq_false hn, g1, eq_false (by omega), eq_false (by omega)⟩

@[push_cast] def trueTopPrices : Con := ⟨[.dat (.prod (.sl .int) (.prod (.sl .int) (.sl (.sl .int)))), .dat (.sl (.sl .int)), .dat (.prod (.sl .int) (.sl .int))], fun _ => True, fun _ => { res := [.val .bool true] }⟩

set_option maxRecDepth 10000 in
set_option maxHeartbeats 8000000 in
theorem topPrices_fn : FnSpec Try.prog 3 trueTopPrices := by
  refine FnSpec.of_tri' (E := know [(4, nxCon), (5, longJCon), (6, wideCon), (7, leastCon), (8, pricesCon), (9, planCon), (10, checkCon), (11, cheapPCon), (12, costVCon), (13, linksECon), (14, isCon), (15, bestBCon), (16, rndCon), (17, roundCon), (18, tollCon)] [] [] []) (know_ok (all_cons pnx_spec (all_cons longJ_spec (all_cons wide_spec (all_cons pleast_spec (all_cons pprices_spec (all_cons plan_spec (all_cons check_spec (all_cons pcheap_spec (all_cons pcostv_spec (all_cons mLinks_spec (all_cons pis_spec (all_cons pbest_spec (all_cons prnd_spec (all_cons pround_spec (all_cons ptoll_spec all_nil))))))))))))))) all_nil all_nil) Try.func3 rfl rfl (by kernel_rfl) ?_
  intro C x hE hnl hfit hpre
  simp only [Try.ntmps3, Try.results3, maxLen, Nat.reduceSub, Nat.reducePow, Nat.reduceAdd, Int.cast_ofNat_Int, push_cast] at hnl hfit hpre ⊢
  obtain ⟨⟨(a : List Int), (b : List Int), (c : List (List Int))⟩, (t : List (List Int)), ⟨(u : List Int), (v : List Int)⟩, _⟩ := x
  dsimp only at hfit hpre ⊢
  replace hnl := And.intro hnl (And.intro next_known bools)
  by_cases hf : errFits a b c = 0
  · have hb0 := least_bnd hf
    have e5 := cheapP_0 hf
    replace hnl := And.intro hnl (And.intro hf e5)
    by_cases hchk : errCheck a b t = 0
    · obtain ⟨T, hTt⟩ : ∃ T, T = t := ⟨t, rfl⟩
      rw [← hTt] at hchk
      have hT := hchk
      rw [← hTt]
      (obtain ⟨i1, i2, i3, i4, i5, i6⟩ := topI hf hT; have j1 := spend_bnd i2; replace hnl := And.intro hnl (And.intro i1 (And.intro i2 (And.intro i3 (And.intro i4 (And.intro i5 i6))))); by_cases hn : CycP c (lkV T))
      · replace hnl := And.intro hnl (And.intro hT (top_yes hf hT hn))
        by_cases ht : errToll c u v = 0
        · obtain ⟨t1, t2, t3⟩ := plan_toll hf hT ht
          have j2 := spend_bnd t2
          have j3 := least_bnd t1
          replace hnl := And.intro hnl (And.intro ht (And.intro t1 (And.intro t2 t3)))
          repeat' (first|(refine goK (by assumption) ?_; iterate 4 (try clear hK K))|(refine tri_seqk fun K hK => ?_)|((first|refine tri_region hE rfl ?_|refine tri_ret ?_); simp +contextual only [hnl, ↓kN, ↓kP, ↓kG, ↓qN, ↓qP, ↓qG, push_cast, Int.reduceEq, Int.reduceLT, Int.reduceLE, Int.reduceNeg, Nat.reduceLT, Nat.reduceLeDiff, Int.reduceToNat, Int.cast_ofNat_Int, Nat.reduceBEq, Nat.reduceMul, Nat.reduceEqDiff, reduceCtorEq, Nat.reduceAdd])|refine tri_block ?_|((first|refine tri_skip ?_|refine tri_exit ?_); simp only [thenQ, blockQ, if_true, if_false, Nat.reduceEqDiff, reduceCtorEq])|(refine tri_cond (by rfl) (fun hb => ?_) (fun hb => ?_) <;> (try simp only [decide_eq_true_eq, decide_eq_false_iff_not, Bool.not_eq_true', Bool.not_eq_false', reduceCtorEq, Bool.true_eq_false, Bool.false_eq_true] at hb) <;> (try omega))|refine tri_unk (by rfl) ?_ ?_|refine And.intro (by first|omega|(unfold InR; omega)|assumption|decide|exact ⟨_, _, rfl⟩) ?_|(refine ⟨fun hc => ?_, fun hc => ?_⟩)|(intro hc; try omega))
          all_goals skip
        · replace hnl := And.intro hnl (eq_false ht)
          repeat' (first|(refine goK (by assumption) ?_; iterate 4 (try clear hK K))|(refine tri_seqk fun K hK => ?_)|((first|refine tri_region hE rfl ?_|refine tri_ret ?_); simp +contextual only [hnl, ↓kN, ↓kP, ↓kG, ↓qN, ↓qP, ↓qG, push_cast, Int.reduceEq, Int.reduceLT, Int.reduceLE, Int.reduceNeg, Nat.reduceLT, Nat.reduceLeDiff, Int.reduceToNat, Int.cast_ofNat_Int, Nat.reduceBEq, Nat.reduceMul, Nat.reduceEqDiff, reduceCtorEq, Nat.reduceAdd])|refine tri_block ?_|((first|refine tri_skip ?_|refine tri_exit ?_); simp only [thenQ, blockQ, if_true, if_false, Nat.reduceEqDiff, reduceCtorEq])|(refine tri_cond (by rfl) (fun hb => ?_) (fun hb => ?_) <;> (try simp only [decide_eq_true_eq, decide_eq_false_iff_not, Bool.not_eq_true', Bool.not_eq_false', reduceCtorEq, Bool.true_eq_false, Bool.false_eq_true] at hb) <;> (try omega))|refine tri_unk (by rfl) ?_ ?_|refine And.intro (by first|omega|(unfold InR; omega)|assumption|decide|exact ⟨_, _, rfl⟩) ?_|(refine ⟨fun hc => ?_, fun hc => ?_⟩)|(intro hc; try omega))
          all_goals skip
      · replace hnl := And.intro hnl (And.intro hT (top_no hf hT hn))
        by_cases ht : errToll c u v = 0
        · obtain ⟨t1, t2, t3⟩ := plan_toll hf hT ht
          have j2 := spend_bnd t2
          have j3 := least_bnd t1
          replace hnl := And.intro hnl (And.intro ht (And.intro t1 (And.intro t2 t3)))
          repeat' (first|(refine goK (by assumption) ?_; iterate 4 (try clear hK K))|(refine tri_seqk fun K hK => ?_)|((first|refine tri_region hE rfl ?_|refine tri_ret ?_); simp +contextual only [hnl, ↓kN, ↓kP, ↓kG, ↓qN, ↓qP, ↓qG, push_cast, Int.reduceEq, Int.reduceLT, Int.reduceLE, Int.reduceNeg, Nat.reduceLT, Nat.reduceLeDiff, Int.reduceToNat, Int.cast_ofNat_Int, Nat.reduceBEq, Nat.reduceMul, Nat.reduceEqDiff, reduceCtorEq, Nat.reduceAdd])|refine tri_block ?_|((first|refine tri_skip ?_|refine tri_exit ?_); simp only [thenQ, blockQ, if_true, if_false, Nat.reduceEqDiff, reduceCtorEq])|(refine tri_cond (by rfl) (fun hb => ?_) (fun hb => ?_) <;> (try simp only [decide_eq_true_eq, decide_eq_false_iff_not, Bool.not_eq_true', Bool.not_eq_false', reduceCtorEq, Bool.true_eq_false, Bool.false_eq_true] at hb) <;> (try omega))|refine tri_unk (by rfl) ?_ ?_|refine And.intro (by first|omega|(unfold InR; omega)|assumption|decide|exact ⟨_, _, rfl⟩) ?_|(refine ⟨fun hc => ?_, fun hc => ?_⟩)|(intro hc; try omega))
          all_goals skip
        · replace hnl := And.intro hnl (eq_false ht)
          repeat' (first|(refine goK (by assumption) ?_; iterate 4 (try clear hK K))|(refine tri_seqk fun K hK => ?_)|((first|refine tri_region hE rfl ?_|refine tri_ret ?_); simp +contextual only [hnl, ↓kN, ↓kP, ↓kG, ↓qN, ↓qP, ↓qG, push_cast, Int.reduceEq, Int.reduceLT, Int.reduceLE, Int.reduceNeg, Nat.reduceLT, Nat.reduceLeDiff, Int.reduceToNat, Int.cast_ofNat_Int, Nat.reduceBEq, Nat.reduceMul, Nat.reduceEqDiff, reduceCtorEq, Nat.reduceAdd])|refine tri_block ?_|((first|refine tri_skip ?_|refine tri_exit ?_); simp only [thenQ, blockQ, if_true, if_false, Nat.reduceEqDiff, reduceCtorEq])|(refine tri_cond (by rfl) (fun hb => ?_) (fun hb => ?_) <;> (try simp only [decide_eq_true_eq, decide_eq_false_iff_not, Bool.not_eq_true', Bool.not_eq_false', reduceCtorEq, Bool.true_eq_false, Bool.false_eq_true] at hb) <;> (try omega))|refine tri_unk (by rfl) ?_ ?_|refine And.intro (by first|omega|(unfold InR; omega)|assumption|decide|exact ⟨_, _, rfl⟩) ?_|(refine ⟨fun hc => ?_, fun hc => ?_⟩)|(intro hc; try omega))
          all_goals skip
    · have hT := cheap_plan hf
      obtain ⟨T, hTt⟩ : ∃ T, T = cheapV a b c := ⟨_, rfl⟩
      rw [← hTt] at hT
      replace hnl := And.intro hnl (And.intro (eq_false hchk) hTt.symm)
      (obtain ⟨i1, i2, i3, i4, i5, i6⟩ := topI hf hT; have j1 := spend_bnd i2; replace hnl := And.intro hnl (And.intro i1 (And.intro i2 (And.intro i3 (And.intro i4 (And.intro i5 i6))))); by_cases hn : CycP c (lkV T))
      · replace hnl := And.intro hnl (And.intro hT (top_yes hf hT hn))
        by_cases ht : errToll c u v = 0
        · obtain ⟨t1, t2, t3⟩ := plan_toll hf hT ht
          have j2 := spend_bnd t2
          have j3 := least_bnd t1
          replace hnl := And.intro hnl (And.intro ht (And.intro t1 (And.intro t2 t3)))
          repeat' (first|(refine goK (by assumption) ?_; iterate 4 (try clear hK K))|(refine tri_seqk fun K hK => ?_)|((first|refine tri_region hE rfl ?_|refine tri_ret ?_); simp +contextual only [hnl, ↓kN, ↓kP, ↓kG, ↓qN, ↓qP, ↓qG, push_cast, Int.reduceEq, Int.reduceLT, Int.reduceLE, Int.reduceNeg, Nat.reduceLT, Nat.reduceLeDiff, Int.reduceToNat, Int.cast_ofNat_Int, Nat.reduceBEq, Nat.reduceMul, Nat.reduceEqDiff, reduceCtorEq, Nat.reduceAdd])|refine tri_block ?_|((first|refine tri_skip ?_|refine tri_exit ?_); simp only [thenQ, blockQ, if_true, if_false, Nat.reduceEqDiff, reduceCtorEq])|(refine tri_cond (by rfl) (fun hb => ?_) (fun hb => ?_) <;> (try simp only [decide_eq_true_eq, decide_eq_false_iff_not, Bool.not_eq_true', Bool.not_eq_false', reduceCtorEq, Bool.true_eq_false, Bool.false_eq_true] at hb) <;> (try omega))|refine tri_unk (by rfl) ?_ ?_|refine And.intro (by first|omega|(unfold InR; omega)|assumption|decide|exact ⟨_, _, rfl⟩) ?_|(refine ⟨fun hc => ?_, fun hc => ?_⟩)|(intro hc; try omega))
          all_goals skip
        · replace hnl := And.intro hnl (eq_false ht)
          repeat' (first|(refine goK (by assumption) ?_; iterate 4 (try clear hK K))|(refine tri_seqk fun K hK => ?_)|((first|refine tri_region hE rfl ?_|refine tri_ret ?_); simp +contextual only [hnl, ↓kN, ↓kP, ↓kG, ↓qN, ↓qP, ↓qG, push_cast, Int.reduceEq, Int.reduceLT, Int.reduceLE, Int.reduceNeg, Nat.reduceLT, Nat.reduceLeDiff, Int.reduceToNat, Int.cast_ofNat_Int, Nat.reduceBEq, Nat.reduceMul, Nat.reduceEqDiff, reduceCtorEq, Nat.reduceAdd])|refine tri_block ?_|((first|refine tri_skip ?_|refine tri_exit ?_); simp only [thenQ, blockQ, if_true, if_false, Nat.reduceEqDiff, reduceCtorEq])|(refine tri_cond (by rfl) (fun hb => ?_) (fun hb => ?_) <;> (try simp only [decide_eq_true_eq, decide_eq_false_iff_not, Bool.not_eq_true', Bool.not_eq_false', reduceCtorEq, Bool.true_eq_false, Bool.false_eq_true] at hb) <;> (try omega))|refine tri_unk (by rfl) ?_ ?_|refine And.intro (by first|omega|(unfold InR; omega)|assumption|decide|exact ⟨_, _, rfl⟩) ?_|(refine ⟨fun hc => ?_, fun hc => ?_⟩)|(intro hc; try omega))
          all_goals skip
      · replace hnl := And.intro hnl (And.intro hT (top_no hf hT hn))
        by_cases ht : errToll c u v = 0
        · obtain ⟨t1, t2, t3⟩ := plan_toll hf hT ht
          have j2 := spend_bnd t2
          have j3 := least_bnd t1
          replace hnl := And.intro hnl (And.intro ht (And.intro t1 (And.intro t2 t3)))
          repeat' (first|(refine goK (by assumption) ?_; iterate 4 (try clear hK K))|(refine tri_seqk fun K hK => ?_)|((first|refine tri_region hE rfl ?_|refine tri_ret ?_); simp +contextual only [hnl, ↓kN, ↓kP, ↓kG, ↓qN, ↓qP, ↓qG, push_cast, Int.reduceEq, Int.reduceLT, Int.reduceLE, Int.reduceNeg, Nat.reduceLT, Nat.reduceLeDiff, Int.reduceToNat, Int.cast_ofNat_Int, Nat.reduceBEq, Nat.reduceMul, Nat.reduceEqDiff, reduceCtorEq, Nat.reduceAdd])|refine tri_block ?_|((first|refine tri_skip ?_|refine tri_exit ?_); simp only [thenQ, blockQ, if_true, if_false, Nat.reduceEqDiff, reduceCtorEq])|(refine tri_cond (by rfl) (fun hb => ?_) (fun hb => ?_) <;> (try simp only [decide_eq_true_eq, decide_eq_false_iff_not, Bool.not_eq_true', Bool.not_eq_false', reduceCtorEq, Bool.true_eq_false, Bool.false_eq_true] at hb) <;> (try omega))|refine tri_unk (by rfl) ?_ ?_|refine And.intro (by first|omega|(unfold InR; omega)|assumption|decide|exact ⟨_, _, rfl⟩) ?_|(refine ⟨fun hc => ?_, fun hc => ?_⟩)|(intro hc; try omega))
          all_goals skip
        · replace hnl := And.intro hnl (eq_false ht)
          repeat' (first|(refine goK (by assumption) ?_; iterate 4 (try clear hK K))|(refine tri_seqk fun K hK => ?_)|((first|refine tri_region hE rfl ?_|refine tri_ret ?_); simp +contextual only [hnl, ↓kN, ↓kP, ↓kG, ↓qN, ↓qP, ↓qG, push_cast, Int.reduceEq, Int.reduceLT, Int.reduceLE, Int.reduceNeg, Nat.reduceLT, Nat.reduceLeDiff, Int.reduceToNat, Int.cast_ofNat_Int, Nat.reduceBEq, Nat.reduceMul, Nat.reduceEqDiff, reduceCtorEq, Nat.reduceAdd])|refine tri_block ?_|((first|refine tri_skip ?_|refine tri_exit ?_); simp only [thenQ, blockQ, if_true, if_false, Nat.reduceEqDiff, reduceCtorEq])|(refine tri_cond (by rfl) (fun hb => ?_) (fun hb => ?_) <;> (try simp only [decide_eq_true_eq, decide_eq_false_iff_not, Bool.not_eq_true', Bool.not_eq_false', reduceCtorEq, Bool.true_eq_false, Bool.false_eq_true] at hb) <;> (try omega))|refine tri_unk (by rfl) ?_ ?_|refine And.intro (by first|omega|(unfold InR; omega)|assumption|decide|exact ⟨_, _, rfl⟩) ?_|(refine ⟨fun hc => ?_, fun hc => ?_⟩)|(intro hc; try omega))
          all_goals skip
  · have e1 := leastV_1 hf
    replace hnl := And.intro hnl (And.intro (eq_false hf) e1)
    repeat' (first|(refine goK (by assumption) ?_; iterate 4 (try clear hK K))|(refine tri_seqk fun K hK => ?_)|((first|refine tri_region hE rfl ?_|refine tri_ret ?_); simp +contextual only [hnl, ↓kN, ↓kP, ↓kG, ↓qN, ↓qP, ↓qG, push_cast, Int.reduceEq, Int.reduceLT, Int.reduceLE, Int.reduceNeg, Nat.reduceLT, Nat.reduceLeDiff, Int.reduceToNat, Int.cast_ofNat_Int, Nat.reduceBEq, Nat.reduceMul, Nat.reduceEqDiff, reduceCtorEq, Nat.reduceAdd])|refine tri_block ?_|((first|refine tri_skip ?_|refine tri_exit ?_); simp only [thenQ, blockQ, if_true, if_false, Nat.reduceEqDiff, reduceCtorEq])|(refine tri_cond (by rfl) (fun hb => ?_) (fun hb => ?_) <;> (try simp only [decide_eq_true_eq, decide_eq_false_iff_not, Bool.not_eq_true', Bool.not_eq_false', reduceCtorEq, Bool.true_eq_false, Bool.false_eq_true] at hb) <;> (try omega))|refine tri_unk (by rfl) ?_ ?_|refine And.intro (by first|omega|(unfold InR; omega)|assumption|decide|exact ⟨_, _, rfl⟩) ?_|(refine ⟨fun hc => ?_, fun hc => ?_⟩)|(intro hc; try omega))
    all_goals skip
end Go.Proofs.Ytpfkipccbgdkjac
