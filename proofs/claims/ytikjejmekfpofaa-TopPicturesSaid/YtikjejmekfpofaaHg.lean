/- The program's prices of a cheapest plan. Conditions: in each contract. -/
import Derived.Test.YtikjejmekfpofaaGv
import Derived.Test.YtikjejmekfpofaaP6
namespace Go.Proofs.Ytikjejmekfpofaa
open Go.RowKit Go.VS Go.OT
set_option linter.unusedSimpArgs false
set_option linter.unusedVariables false

/-- Costs and a plan of one shape. -/
structure PrPre (c p : List (List Int)) : Prop where
  R6 : 1 ≤ c.length ∧ c.length ≤ 6
  C6 : 1 ≤ wid c ∧ wid c ≤ 6
  hc : Tb c.length (wid c) 0 99 c
  hp : Tb c.length (wid c) 0 200 p
def prV (c p : List (List Int)) : PS := prK c p c.length (wid c) (c.length + wid c)

@[push_cast] def shipPrCon : Con := ⟨[.dat (.sl (.sl .int)), .dat (.sl (.sl .int))], fun (x : List (List Int) × List (List Int) × Unit) => PrPre x.1 x.2.1, fun (x : List (List Int) × List (List Int) × Unit) => { res := [.own (.flat 3 .int (prV x.1 x.2.1).r), .own (.flat 3 .int (prV x.1 x.2.1).k)] }⟩

theorem pr2_y {c p : List (List Int)} {i j : Nat} {s : PS} (hn : 0 < (p.getD i []).getD j 0) (hj : j < s.k.length) : pr2 c p i j s = ⟨s.r.set i (max (s.r.getD i 0) ((c.getD i []).getD j 0 - min (s.k.getD j 0) ((c.getD i []).getD j 0 - s.r.getD i 0))), s.k.set j (min (s.k.getD j 0) ((c.getD i []).getD j 0 - s.r.getD i 0))⟩ := by
  unfold pr2 prR prC
  rw [if_pos hn]
  dsimp only
  rw [ga_set hj, if_pos rfl]
theorem pr2_n {c p : List (List Int)} {i j : Nat} {s : PS} (hn : ¬ 0 < (p.getD i []).getD j 0) : pr2 c p i j s = ⟨s.r, s.k.set j (min (s.k.getD j 0) ((c.getD i []).getD j 0 - s.r.getD i 0))⟩ := by
  unfold pr2 prR prC
  rw [if_neg hn]

set_option maxHeartbeats 2000000 in
theorem shipPr_spec : FnSpec Try.prog 20 shipPrCon := by
  refine FnSpec.of_tri' (E := know [] [] [] [12, 17]) (know_ok all_nil all_nil all_nil) Try.func20 rfl rfl (by kernel_rfl) ?_
  intro C x hE hnl hfit hpre
  simp only [Try.ntmps20, Try.results20, maxLen, Nat.reduceSub, Nat.reducePow, Nat.reduceAdd, Int.cast_ofNat_Int, push_cast] at hnl hfit hpre ⊢
  obtain ⟨(c : List (List Int)), (p : List (List Int)), _⟩ := x
  dsimp only at hfit hpre ⊢
  obtain ⟨h1, h2, hc, hp⟩ := hpre
  have hw : (c.getD 0 []).length = wid c := rfl
  have hpl := hp.rows
  have hrep : ∀ n, (List.replicate n (0 : Int)).length = n := fun n => List.length_replicate
  replace hnl := And.intro hnl (And.intro hw hrep)
  repeat' (first | (refine tri_thaw 4 12 12 (by simp only [push_cast, Int.reduceEq, Int.reduceLT, Int.reduceLE, Int.reduceNeg, Nat.reduceLT, Nat.reduceLeDiff, Int.reduceToNat, Int.cast_ofNat_Int, Nat.reduceBEq, Nat.reduceMul, Nat.reduceEqDiff, reduceCtorEq, Nat.reduceAdd]; rfl) (by omega) ?_) | (refine tri_thaw 5 17 17 (by simp only [push_cast, Int.reduceEq, Int.reduceLT, Int.reduceLE, Int.reduceNeg, Nat.reduceLT, Nat.reduceLeDiff, Int.reduceToNat, Int.cast_ofNat_Int, Nat.reduceBEq, Nat.reduceMul, Nat.reduceEqDiff, reduceCtorEq, Nat.reduceAdd]; rfl) (by omega) ?_) | (first|(refine goK (by assumption) ?_; iterate 4 (try clear hK K))|(refine tri_seqk fun K hK => ?_)|((first|refine tri_region hE rfl ?_|refine tri_ret ?_|((first|refine tri_drawP hE 1 rfl rfl (by kernel_rfl) ?_|refine tri_drawP hE 2 rfl rfl (by kernel_rfl) ?_|refine tri_drawP hE 3 rfl rfl (by kernel_rfl) ?_|refine tri_drawP hE 4 rfl rfl (by kernel_rfl) ?_); simp only [List.length_cons, List.length_nil, Nat.reduceAdd, Nat.reduceSub, List.take_succ_cons, List.take_zero, List.drop_succ_cons, List.drop_zero])); simp +contextual only [hnl, ↓kN, ↓kP, ↓kG, ↓qN, ↓qP, ↓qG, push_cast, Int.reduceEq, Int.reduceLT, Int.reduceLE, Int.reduceNeg, Nat.reduceLT, Nat.reduceLeDiff, Int.reduceToNat, Int.cast_ofNat_Int, Nat.reduceBEq, Nat.reduceMul, Nat.reduceEqDiff, reduceCtorEq, Nat.reduceAdd])|refine tri_block ?_|((first|refine tri_skip ?_|refine tri_exit ?_); simp only [thenQ, blockQ, if_true, if_false, Nat.reduceEqDiff, reduceCtorEq])|(refine tri_cond (by rfl) (fun hb => ?_) (fun hb => ?_) <;> (try simp only [decide_eq_true_eq, decide_eq_false_iff_not, Bool.not_eq_true', Bool.not_eq_false', reduceCtorEq, Bool.true_eq_false, Bool.false_eq_true] at hb) <;> (try omega))|refine tri_unk (by rfl) ?_ ?_|refine And.intro (by first|omega|(unfold InR; omega)|assumption|decide|exact ⟨_, _, rfl⟩) ?_|(refine ⟨fun hc => ?_, fun hc => ?_⟩)|(intro hc; try omega)))
  refine tri_loopI (fun n : Nat => AS.of [(0, .one (.val (.sl (.sl .int)) c)), (1, .one (.val (.sl (.sl .int)) p)), (4, .one (.ref 12)), (5, .one (.ref 17)), (22, .I ((c.length : Int) + (wid c : Int))), (23, .I n)] [(12, .flat 3 .int (prK c p c.length (wid c) n).r), (17, .flat 3 .int (prK c p c.length (wid c) n).k)] [])
    (fun n => n ≤ c.length + wid c) (fun n => c.length + wid c - n) 0 (Nat.zero_le _) ?_ ?_
  · refine weak_of ?_ ?_ ?_ <;> simp only [push_cast, Int.reduceEq, Int.reduceLT, Int.reduceLE, Int.reduceNeg, Nat.reduceLT, Nat.reduceLeDiff, Int.reduceToNat, Int.cast_ofNat_Int, Nat.reduceBEq, Nat.reduceMul, Nat.reduceEqDiff, reduceCtorEq, Nat.reduceAdd]
    exact ⟨.inl rfl, .inl rfl⟩
  intro n hn K' hL
  have hD := prK_st (p := p) hc h1.2 h2.2 n
  have hDn : prK c p c.length (wid c) (n + 1) = upto (prRow c p) c.length (prK c p c.length (wid c) n) := rfl
  repeat' (first|(refine goK (by assumption) ?_; iterate 4 (try clear hK K))|(refine tri_seqk fun K hK => ?_)|((first|refine tri_region hE rfl ?_|refine tri_ret ?_|((first|refine tri_drawP hE 1 rfl rfl (by kernel_rfl) ?_|refine tri_drawP hE 2 rfl rfl (by kernel_rfl) ?_|refine tri_drawP hE 3 rfl rfl (by kernel_rfl) ?_|refine tri_drawP hE 4 rfl rfl (by kernel_rfl) ?_); simp only [List.length_cons, List.length_nil, Nat.reduceAdd, Nat.reduceSub, List.take_succ_cons, List.take_zero, List.drop_succ_cons, List.drop_zero])); simp +contextual only [hnl, ↓kN, ↓kP, ↓kG, ↓qN, ↓qP, ↓qG, push_cast, Int.reduceEq, Int.reduceLT, Int.reduceLE, Int.reduceNeg, Nat.reduceLT, Nat.reduceLeDiff, Int.reduceToNat, Int.cast_ofNat_Int, Nat.reduceBEq, Nat.reduceMul, Nat.reduceEqDiff, reduceCtorEq, Nat.reduceAdd])|refine tri_block ?_|((first|refine tri_skip ?_|refine tri_exit ?_); simp only [thenQ, blockQ, if_true, if_false, Nat.reduceEqDiff, reduceCtorEq])|(refine tri_cond (by rfl) (fun hb => ?_) (fun hb => ?_) <;> (try simp only [decide_eq_true_eq, decide_eq_false_iff_not, Bool.not_eq_true', Bool.not_eq_false', reduceCtorEq, Bool.true_eq_false, Bool.false_eq_true] at hb) <;> (try omega))|refine tri_unk (by rfl) ?_ ?_|refine And.intro (by first|omega|(unfold InR; omega)|assumption|decide|exact ⟨_, _, rfl⟩) ?_|(refine ⟨fun hc => ?_, fun hc => ?_⟩)|(intro hc; try omega))
  · generalize prK c p c.length (wid c) n = s0 at hD hDn ⊢
    refine tri_loopI (fun i : Nat => AS.of [(0, .one (.val (.sl (.sl .int)) c)), (1, .one (.val (.sl (.sl .int)) p)), (4, .one (.ref 12)), (5, .one (.ref 17)), (22, .I ((c.length : Int) + (wid c : Int))), (23, .I n), (25, .one (.val (.sl (.sl .int)) c)), (26, .I c.length), (27, .I i)] [(12, .flat 3 .int (upto (prRow c p) i s0).r), (17, .flat 3 .int (upto (prRow c p) i s0).k)] [])
      (fun i => i ≤ c.length) (fun i => c.length - i) 0 (Nat.zero_le _) ?_ ?_
    · refine weak_of ?_ ?_ ?_ <;> simp only [push_cast, Int.reduceEq, Int.reduceLT, Int.reduceLE, Int.reduceNeg, Nat.reduceLT, Nat.reduceLeDiff, Int.reduceToNat, Int.cast_ofNat_Int, Nat.reduceBEq, Nat.reduceMul, Nat.reduceEqDiff, reduceCtorEq, Nat.reduceAdd]
      exact ⟨.inl rfl, .inl rfl⟩
    intro i hi K2 hL2
    repeat' (first|(refine goK (by assumption) ?_; iterate 4 (try clear hK K))|(refine tri_seqk fun K hK => ?_)|((first|refine tri_region hE rfl ?_|refine tri_ret ?_|((first|refine tri_drawP hE 1 rfl rfl (by kernel_rfl) ?_|refine tri_drawP hE 2 rfl rfl (by kernel_rfl) ?_|refine tri_drawP hE 3 rfl rfl (by kernel_rfl) ?_|refine tri_drawP hE 4 rfl rfl (by kernel_rfl) ?_); simp only [List.length_cons, List.length_nil, Nat.reduceAdd, Nat.reduceSub, List.take_succ_cons, List.take_zero, List.drop_succ_cons, List.drop_zero])); simp +contextual only [hnl, ↓kN, ↓kP, ↓kG, ↓qN, ↓qP, ↓qG, push_cast, Int.reduceEq, Int.reduceLT, Int.reduceLE, Int.reduceNeg, Nat.reduceLT, Nat.reduceLeDiff, Int.reduceToNat, Int.cast_ofNat_Int, Nat.reduceBEq, Nat.reduceMul, Nat.reduceEqDiff, reduceCtorEq, Nat.reduceAdd])|refine tri_block ?_|((first|refine tri_skip ?_|refine tri_exit ?_); simp only [thenQ, blockQ, if_true, if_false, Nat.reduceEqDiff, reduceCtorEq])|(refine tri_cond (by rfl) (fun hb => ?_) (fun hb => ?_) <;> (try simp only [decide_eq_true_eq, decide_eq_false_iff_not, Bool.not_eq_true', Bool.not_eq_false', reduceCtorEq, Bool.true_eq_false, Bool.false_eq_true] at hb) <;> (try omega))|refine tri_unk (by rfl) ?_ ?_|refine And.intro (by first|omega|(unfold InR; omega)|assumption|decide|exact ⟨_, _, rfl⟩) ?_|(refine ⟨fun hc => ?_, fun hc => ?_⟩)|(intro hc; try omega))
    · have hi' : i < c.length := by omega
      have hci := hc.cols i hi'
      have hpi := hp.cols i hi'
      have hQ := PSt.tab (p := p) hc h2.2 hD i (by omega)
      have hQn : upto (prRow c p) (i + 1) s0 = upto (pr2 c p i) (c.getD i []).length (upto (prRow c p) i s0) := rfl
      generalize upto (prRow c p) i s0 = s1 at hQ hQn ⊢
      refine tri_loopI (fun j : Nat => AS.of [(0, .one (.val (.sl (.sl .int)) c)), (1, .one (.val (.sl (.sl .int)) p)), (4, .one (.ref 12)), (5, .one (.ref 17)), (6, .I i), (22, .I ((c.length : Int) + (wid c : Int))), (23, .I n), (25, .one (.val (.sl (.sl .int)) c)), (26, .I c.length), (27, .I i), (32, .one (.val (.sl .int) (c.getD i []))), (33, .I (c.getD i []).length), (34, .I j)] [(12, .flat 3 .int (upto (pr2 c p i) j s1).r), (17, .flat 3 .int (upto (pr2 c p i) j s1).k)] [])
        (fun j => j ≤ wid c) (fun j => wid c - j) 0 (Nat.zero_le _) ?_ ?_
      · refine weak_of ?_ ?_ ?_ <;> simp only [push_cast, Int.reduceEq, Int.reduceLT, Int.reduceLE, Int.reduceNeg, Nat.reduceLT, Nat.reduceLeDiff, Int.reduceToNat, Int.cast_ofNat_Int, Nat.reduceBEq, Nat.reduceMul, Nat.reduceEqDiff, reduceCtorEq, Nat.reduceAdd]
        exact ⟨.inl rfl, .inl rfl⟩
      intro j hj K3 hL3
      have hF := PSt.row (p := p) hc hQ hi' j hj
      have hFn : upto (pr2 c p i) (j + 1) s1 = pr2 c p i j (upto (pr2 c p i) j s1) := rfl
      generalize hs2 : upto (pr2 c p i) j s1 = s2 at hF hFn ⊢
      have g1 := hF.l1
      have g2 := hF.l2
      have g3 := hF.b1 i hi'
      rcases Nat.lt_or_ge j (wid c) with hjb | hjb
      · have g4 := hF.b2 j hjb
        have g5 := hc.at' i j hi' hjb
        have g6 : ∀ x : Int, (s2.k.set j x).getD j 0 = x := fun x => by rw [ga_set (by omega), if_pos rfl]
        have g7 : ∀ x : Int, (s2.k.set j x).length = s2.k.length := fun x => List.length_set
        replace hnl := And.intro hnl (And.intro g6 g7)
        repeat' (first|(refine goK (by assumption) ?_; iterate 4 (try clear hK K))|(refine tri_seqk fun K hK => ?_)|((first|refine tri_region hE rfl ?_|refine tri_ret ?_|((first|refine tri_drawP hE 1 rfl rfl (by kernel_rfl) ?_|refine tri_drawP hE 2 rfl rfl (by kernel_rfl) ?_|refine tri_drawP hE 3 rfl rfl (by kernel_rfl) ?_|refine tri_drawP hE 4 rfl rfl (by kernel_rfl) ?_); simp only [List.length_cons, List.length_nil, Nat.reduceAdd, Nat.reduceSub, List.take_succ_cons, List.take_zero, List.drop_succ_cons, List.drop_zero])); simp +contextual only [hnl, ↓kN, ↓kP, ↓kG, ↓qN, ↓qP, ↓qG, push_cast, Int.reduceEq, Int.reduceLT, Int.reduceLE, Int.reduceNeg, Nat.reduceLT, Nat.reduceLeDiff, Int.reduceToNat, Int.cast_ofNat_Int, Nat.reduceBEq, Nat.reduceMul, Nat.reduceEqDiff, reduceCtorEq, Nat.reduceAdd])|refine tri_block ?_|((first|refine tri_skip ?_|refine tri_exit ?_); simp only [thenQ, blockQ, if_true, if_false, Nat.reduceEqDiff, reduceCtorEq])|(refine tri_cond (by rfl) (fun hb => ?_) (fun hb => ?_) <;> (try simp only [decide_eq_true_eq, decide_eq_false_iff_not, Bool.not_eq_true', Bool.not_eq_false', reduceCtorEq, Bool.true_eq_false, Bool.false_eq_true] at hb) <;> (try omega))|refine tri_unk (by rfl) ?_ ?_|refine And.intro (by first|omega|(unfold InR; omega)|assumption|decide|exact ⟨_, _, rfl⟩) ?_|(refine ⟨fun hc => ?_, fun hc => ?_⟩)|(intro hc; try omega))
        all_goals refine hL3 _ (j + 1) (by omega) (by omega) ?_
        all_goals refine weak_of ?_ ?_ ?_ <;> simp only [push_cast, Int.reduceEq, Int.reduceLT, Int.reduceLE, Int.reduceNeg, Nat.reduceLT, Nat.reduceLeDiff, Int.reduceToNat, Int.cast_ofNat_Int, Nat.reduceBEq, Nat.reduceMul, Nat.reduceEqDiff, reduceCtorEq, Nat.reduceAdd]
        all_goals rw [hFn]
        all_goals first | rw [pr2_y (by omega) (by omega)] | rw [pr2_n (by omega)]
        all_goals exact ⟨.inl rfl, .inl rfl⟩
      · repeat' (first|(refine goK (by assumption) ?_; iterate 4 (try clear hK K))|(refine tri_seqk fun K hK => ?_)|((first|refine tri_region hE rfl ?_|refine tri_ret ?_|((first|refine tri_drawP hE 1 rfl rfl (by kernel_rfl) ?_|refine tri_drawP hE 2 rfl rfl (by kernel_rfl) ?_|refine tri_drawP hE 3 rfl rfl (by kernel_rfl) ?_|refine tri_drawP hE 4 rfl rfl (by kernel_rfl) ?_); simp only [List.length_cons, List.length_nil, Nat.reduceAdd, Nat.reduceSub, List.take_succ_cons, List.take_zero, List.drop_succ_cons, List.drop_zero])); simp +contextual only [hnl, ↓kN, ↓kP, ↓kG, ↓qN, ↓qP, ↓qG, push_cast, Int.reduceEq, Int.reduceLT, Int.reduceLE, Int.reduceNeg, Nat.reduceLT, Nat.reduceLeDiff, Int.reduceToNat, Int.cast_ofNat_Int, Nat.reduceBEq, Nat.reduceMul, Nat.reduceEqDiff, reduceCtorEq, Nat.reduceAdd])|refine tri_block ?_|((first|refine tri_skip ?_|refine tri_exit ?_); simp only [thenQ, blockQ, if_true, if_false, Nat.reduceEqDiff, reduceCtorEq])|(refine tri_cond (by rfl) (fun hb => ?_) (fun hb => ?_) <;> (try simp only [decide_eq_true_eq, decide_eq_false_iff_not, Bool.not_eq_true', Bool.not_eq_false', reduceCtorEq, Bool.true_eq_false, Bool.false_eq_true] at hb) <;> (try omega))|refine tri_unk (by rfl) ?_ ?_|refine And.intro (by first|omega|(unfold InR; omega)|assumption|decide|exact ⟨_, _, rfl⟩) ?_|(refine ⟨fun hc => ?_, fun hc => ?_⟩)|(intro hc; try omega))
        obtain rfl : j = (c.getD i []).length := by omega
        rw [hs2] at hQn
        refine hL2 _ (i + 1) (by omega) (by omega) ?_
        refine weak_of ?_ ?_ ?_ <;> simp only [push_cast, Int.reduceEq, Int.reduceLT, Int.reduceLE, Int.reduceNeg, Nat.reduceLT, Nat.reduceLeDiff, Int.reduceToNat, Int.cast_ofNat_Int, Nat.reduceBEq, Nat.reduceMul, Nat.reduceEqDiff, reduceCtorEq, Nat.reduceAdd]
        rw [hQn]
        exact ⟨.inl rfl, .inl rfl⟩
    · obtain rfl : i = c.length := by omega
      refine hL _ (n + 1) (by omega) (by omega) ?_
      refine weak_of ?_ ?_ ?_ <;> simp only [push_cast, Int.reduceEq, Int.reduceLT, Int.reduceLE, Int.reduceNeg, Nat.reduceLT, Nat.reduceLeDiff, Int.reduceToNat, Int.cast_ofNat_Int, Nat.reduceBEq, Nat.reduceMul, Nat.reduceEqDiff, reduceCtorEq, Nat.reduceAdd]
      rw [hDn]
      exact ⟨.inl rfl, .inl rfl⟩
  · obtain rfl : n = c.length + wid c := by omega
    exact ⟨rfl, rfl⟩
end Go.Proofs.Ytikjejmekfpofaa
