/- The document's cheapest plan, its prices and its least. Conditions: in each contract. -/
import Derived.Test.YtogopoiohckpdadHe
namespace Go.Proofs.Ytogopoiohckpdad
open Go.RowKit Go.VS Go.OT Go.LC
set_option linter.unusedSimpArgs false
set_option linter.unusedVariables false

abbrev SolArgs := List Int × List Int × List (List Int) × Unit
def solRows (a b : List Int) (c : List (List Int)) : List Int := (List.range a.length).map fun i => -((solveD a b c).getD i 0)
def solCols (a b : List Int) (c : List (List Int)) : List Int := (List.range b.length).map fun j => (solveD a b c).getD (a.length + j) 0
@[push_cast] def solCon : Con := ⟨[.dat (.sl .int), .dat (.sl .int), .dat (.sl (.sl .int))], fun (x : SolArgs) => MQ x.1 x.2.1 x.2.2.1,
  fun (x : SolArgs) => { res := [.own (.deep 22 3 .int (solveV x.1 x.2.1 x.2.2.1)), .val (.prod (.sl .int) (.sl .int)) (solRows x.1 x.2.1 x.2.2.1, solCols x.1 x.2.1 x.2.2.1)] }⟩

/-- What holds of the plan on the way. -/
structure SolI (a b : List Int) (c : List (List Int)) (y : Nat × List (List Int)) : Prop where
  eq : solveF c (a.length + b.length) y.1 y.2 = solveV a b c
  pl : Pl a b y.2
  lt : costN a.length b.length c y.2 < y.1

set_option maxHeartbeats 1000000 in
theorem sol_spec : FnSpec Try.prog 64 solCon := by
  refine FnSpec.of_tri' (E := know [(80, cornCon), (81, impCon)] [] [] []) (know_ok (all_cons corn_spec (all_cons imp_spec all_nil)) all_nil all_nil) Try.func64 rfl rfl (by kernel_rfl) ?_
  intro C x hE hnl hfit hpre
  simp only [Try.ntmps64, Try.results64, maxLen, Nat.reduceSub, Nat.reducePow, Nat.reduceAdd, Int.cast_ofNat_Int, push_cast] at hnl hfit hpre ⊢
  obtain ⟨(a : List Int), (b : List Int), (c : List (List Int)), _⟩ := x
  dsimp only at hfit hpre ⊢
  obtain ⟨d1, d2⟩ := MQ.dims hpre
  have ha5 := hpre.a5
  have hb5 := hpre.b5
  have hcp : CornPre a b := ⟨by omega, by omega, hpre.ha, hpre.hb⟩
  repeat' (first|(refine goK (by assumption) ?_; iterate 4 (try clear hK K))|(refine tri_seqk fun K hK => ?_)|((first|refine tri_region hE rfl ?_|refine tri_ret ?_|((first|refine tri_drawP hE 1 rfl rfl (by kernel_rfl) ?_|refine tri_drawP hE 2 rfl rfl (by kernel_rfl) ?_|refine tri_drawP hE 3 rfl rfl (by kernel_rfl) ?_|refine tri_drawP hE 4 rfl rfl (by kernel_rfl) ?_); simp only [List.length_cons, List.length_nil, Nat.reduceAdd, Nat.reduceSub, List.take_succ_cons, List.take_zero, List.drop_succ_cons, List.drop_zero])); simp +contextual only [hnl, ↓kN, ↓kP, ↓kG, ↓qN, ↓qP, ↓qG, push_cast, Int.reduceEq, Int.reduceLT, Int.reduceLE, Int.reduceNeg, Nat.reduceLT, Nat.reduceLeDiff, Int.reduceToNat, Int.cast_ofNat_Int, Nat.reduceBEq, Nat.reduceMul, Nat.reduceEqDiff, reduceCtorEq, Nat.reduceAdd])|refine tri_block ?_|((first|refine tri_skip ?_|refine tri_exit ?_); simp only [thenQ, blockQ, if_true, if_false, Nat.reduceEqDiff, reduceCtorEq])|(refine tri_cond (by rfl) (fun hb => ?_) (fun hb => ?_) <;> (try simp only [decide_eq_true_eq, decide_eq_false_iff_not, Bool.not_eq_true', Bool.not_eq_false', reduceCtorEq, Bool.true_eq_false, Bool.false_eq_true] at hb) <;> (try omega))|refine tri_unk (by rfl) ?_ ?_|refine And.intro (by first|omega|(unfold InR; omega)|assumption|decide|exact ⟨_, _, rfl⟩) ?_|(refine ⟨fun hc => ?_, fun hc => ?_⟩)|(intro hc; try omega))
  refine tri_loopI (fun y : Nat × List (List Int) => AS.of [(0, .one (.val (.sl .int) a)), (1, .one (.val (.sl .int) b)), (2, .one (.val (.sl (.sl .int)) c)), (7, .one (.box 7)), (8, .one (.ref 16))] [(16, .deep 22 3 .int y.2)] [(7, .rcd [.nils, .nils])])
    (SolI a b c) (fun y => y.1) (costN a.length b.length c (cornV a b) + 1, cornV a b) ⟨rfl, hpre.corner, Nat.lt_succ_self _⟩ ?_ ?_
  · refine weak_of ?_ ?_ ?_ <;> simp only [push_cast, Int.reduceEq, Int.reduceLT, Int.reduceLE, Int.reduceNeg, Nat.reduceLT, Nat.reduceLeDiff, Int.reduceToNat, Int.cast_ofNat_Int, Nat.reduceBEq, Nat.reduceMul, Nat.reduceEqDiff, reduceCtorEq, Nat.reduceAdd]
    all_goals first | exact .inl rfl | skip
  intro y hI K' hL
  obtain ⟨n, p⟩ := y
  obtain ⟨i1, i2, i3⟩ := hI
  dsimp only at i1 i2 i3 ⊢
  have hip : ImpPre c (.deep 22 3 .int p) := ⟨by rw [deepJ_deep], ⟨a, b, hpre, by rw [deepJ_deep]; exact i2⟩, by omega⟩
  obtain ⟨n, rfl⟩ : ∃ m, n = m + 1 := ⟨n - 1, by omega⟩
  have hN : c.length + wid c = a.length + b.length := by omega
  by_cases hl : (lwN c p (c.length + wid c)).last < 0
  · have hi : impL c p = false := decide_eq_false (by omega)
    have hp1 : solveV a b c = p := by
      rw [← i1]
      rw [hN] at hl
      exact if_pos hl
    have hD : solveD a b c = (lwN c p (c.length + wid c)).far := by
      unfold solveD
      rw [hp1, hN]
    have hfl : (lwN c p (c.length + wid c)).far.length = c.length + wid c := (lwK_sim (q := p) (R := c.length) (C := wid c) (by rw [d1, d2]; exact hpre.hc) (by omega) (by omega) (c.length + wid c)).l1
    have hfb := (lwK_sim (q := p) (R := c.length) (C := wid c) (by rw [d1, d2]; exact hpre.hc) (by omega) (by omega) (c.length + wid c)).bnd
    have hLN : lwK c p (c.length + wid c) (c.length + wid c) = lwN c p (c.length + wid c) := rfl
    rw [hLN] at hfb
    obtain ⟨fr, hfr⟩ : ∃ fr, fr = (lwN c p (c.length + wid c)).far := ⟨_, rfl⟩
    rw [← hfr] at hfl hfb hD
    have hfb : ∀ v, v < c.length + wid c → -1000000000 ≤ fr.getD v 0 ∧ fr.getD v 0 ≤ 0 := fun v hv => by have := hfb v hv; omega
    have hR : solRows a b c = (List.range a.length).map fun i => -(fr.getD i 0) := by unfold solRows; rw [hD]
    have hC : solCols a b c = (List.range b.length).map fun j => fr.getD (a.length + j) 0 := by unfold solCols; rw [hD]
    rw [hp1, hR, hC]
    replace hnl := And.intro hnl hi
    repeat' (first|(refine goK (by assumption) ?_; iterate 4 (try clear hK K))|(refine tri_seqk fun K hK => ?_)|((first|refine tri_region hE rfl ?_|refine tri_ret ?_|((first|refine tri_drawP hE 1 rfl rfl (by kernel_rfl) ?_|refine tri_drawP hE 2 rfl rfl (by kernel_rfl) ?_|refine tri_drawP hE 3 rfl rfl (by kernel_rfl) ?_|refine tri_drawP hE 4 rfl rfl (by kernel_rfl) ?_); simp only [List.length_cons, List.length_nil, Nat.reduceAdd, Nat.reduceSub, List.take_succ_cons, List.take_zero, List.drop_succ_cons, List.drop_zero])); simp +contextual only [hnl, ↓kN, ↓kP, ↓kG, ↓qN, ↓qP, ↓qG, push_cast, Int.reduceEq, Int.reduceLT, Int.reduceLE, Int.reduceNeg, Nat.reduceLT, Nat.reduceLeDiff, Int.reduceToNat, Int.cast_ofNat_Int, Nat.reduceBEq, Nat.reduceMul, Nat.reduceEqDiff, reduceCtorEq, Nat.reduceAdd])|refine tri_block ?_|((first|refine tri_skip ?_|refine tri_exit ?_); simp only [thenQ, blockQ, if_true, if_false, Nat.reduceEqDiff, reduceCtorEq])|(refine tri_cond (by rfl) (fun hb => ?_) (fun hb => ?_) <;> (try simp only [decide_eq_true_eq, decide_eq_false_iff_not, Bool.not_eq_true', Bool.not_eq_false', reduceCtorEq, Bool.true_eq_false, Bool.false_eq_true] at hb) <;> (try omega))|refine tri_unk (by rfl) ?_ ?_|refine And.intro (by first|omega|(unfold InR; omega)|assumption|decide|exact ⟨_, _, rfl⟩) ?_|(refine ⟨fun hc => ?_, fun hc => ?_⟩)|(intro hc; try omega))
    refine tri_loopI (fun k : Nat => AS.of [(0, .one (.val (.sl .int) a)), (1, .one (.val (.sl .int) b)), (7, .one (.box 7)), (8, .one (.ref 16)), (9, .one (.ref 20)), (11, .one (.box 11)), (12, .I k)] [(16, .deep 22 3 .int p), (20, .flat 3 .int fr), (38, .flat 3 .int ((List.range k).map fun i => -(fr.getD i 0)))] [(7, .rcd [.nils, .nils]), (11, .rcd [.ref 38, .nils])])
      (fun k => k ≤ a.length) (fun k => a.length - k) 0 (Nat.zero_le _) ?_ ?_
    · refine weak_of ?_ ?_ ?_ <;> simp only [push_cast, Int.reduceEq, Int.reduceLT, Int.reduceLE, Int.reduceNeg, Nat.reduceLT, Nat.reduceLeDiff, Int.reduceToNat, Int.cast_ofNat_Int, Nat.reduceBEq, Nat.reduceMul, Nat.reduceEqDiff, reduceCtorEq, Nat.reduceAdd]
      all_goals first | exact ⟨by rw [hfr]; exact .inl rfl, by omega, rfl⟩ | skip
    intro k hk K2 hL2
    have hfk := hfb k
    have hlen : ((List.range k).map fun i => -(fr.getD i 0)).length = k := by simp
    replace hnl := And.intro hnl hlen
    repeat' (first|(refine goK (by assumption) ?_; iterate 4 (try clear hK K))|(refine tri_seqk fun K hK => ?_)|((first|refine tri_region hE rfl ?_|refine tri_ret ?_|((first|refine tri_drawP hE 1 rfl rfl (by kernel_rfl) ?_|refine tri_drawP hE 2 rfl rfl (by kernel_rfl) ?_|refine tri_drawP hE 3 rfl rfl (by kernel_rfl) ?_|refine tri_drawP hE 4 rfl rfl (by kernel_rfl) ?_); simp only [List.length_cons, List.length_nil, Nat.reduceAdd, Nat.reduceSub, List.take_succ_cons, List.take_zero, List.drop_succ_cons, List.drop_zero])); simp +contextual only [hnl, ↓kN, ↓kP, ↓kG, ↓qN, ↓qP, ↓qG, push_cast, Int.reduceEq, Int.reduceLT, Int.reduceLE, Int.reduceNeg, Nat.reduceLT, Nat.reduceLeDiff, Int.reduceToNat, Int.cast_ofNat_Int, Nat.reduceBEq, Nat.reduceMul, Nat.reduceEqDiff, reduceCtorEq, Nat.reduceAdd])|refine tri_block ?_|((first|refine tri_skip ?_|refine tri_exit ?_); simp only [thenQ, blockQ, if_true, if_false, Nat.reduceEqDiff, reduceCtorEq])|(refine tri_cond (by rfl) (fun hb => ?_) (fun hb => ?_) <;> (try simp only [decide_eq_true_eq, decide_eq_false_iff_not, Bool.not_eq_true', Bool.not_eq_false', reduceCtorEq, Bool.true_eq_false, Bool.false_eq_true] at hb) <;> (try omega))|refine tri_unk (by rfl) ?_ ?_|refine And.intro (by first|omega|(unfold InR; omega)|assumption|decide|exact ⟨_, _, rfl⟩) ?_|(refine ⟨fun hc => ?_, fun hc => ?_⟩)|(intro hc; try omega))
    · refine hL2 _ (k + 1) (by omega) (by omega) ?_
      refine weak_of ?_ ?_ ?_ <;> simp only [push_cast, Int.reduceEq, Int.reduceLT, Int.reduceLE, Int.reduceNeg, Nat.reduceLT, Nat.reduceLeDiff, Int.reduceToNat, Int.cast_ofNat_Int, Nat.reduceBEq, Nat.reduceMul, Nat.reduceEqDiff, reduceCtorEq, Nat.reduceAdd]
      all_goals first | (left; rw [List.range_succ, List.map_append]; rfl) | skip
    obtain rfl : k = a.length := by omega
    clear hL2 hfk
    refine tri_loopI (fun k : Nat => AS.of [(0, .one (.val (.sl .int) a)), (1, .one (.val (.sl .int) b)), (7, .one (.box 7)), (8, .one (.ref 16)), (9, .one (.ref 20)), (11, .one (.box 11)), (13, .I k)] [(16, .deep 22 3 .int p), (20, .flat 3 .int fr), (38, .flat 3 .int ((List.range a.length).map fun i => -(fr.getD i 0))), (56, .flat 3 .int ((List.range k).map fun j => fr.getD (a.length + j) 0))] [(7, .rcd [.nils, .nils]), (11, .rcd [.ref 38, .ref 56])])
      (fun k => k ≤ b.length) (fun k => b.length - k) 0 (Nat.zero_le _) ?_ ?_
    · refine weak_of ?_ ?_ ?_ <;> simp only [push_cast, Int.reduceEq, Int.reduceLT, Int.reduceLE, Int.reduceNeg, Nat.reduceLT, Nat.reduceLeDiff, Int.reduceToNat, Int.cast_ofNat_Int, Nat.reduceBEq, Nat.reduceMul, Nat.reduceEqDiff, reduceCtorEq, Nat.reduceAdd]
      all_goals first | exact ⟨by omega, rfl⟩ | skip
    intro k hk2 K3 hL3
    have hlen2 : ((List.range k).map fun j => fr.getD (a.length + j) 0).length = k := by simp
    have hsum : ((a.length : Int) + (k : Int)).toNat = a.length + k := by omega
    replace hnl := And.intro hnl (And.intro hlen2 hsum)
    rcases Nat.lt_or_ge k b.length with hkb | hkb
    · repeat' (first|(refine goK (by assumption) ?_; iterate 4 (try clear hK K))|(refine tri_seqk fun K hK => ?_)|((first|refine tri_region hE rfl ?_|refine tri_ret ?_|((first|refine tri_drawP hE 1 rfl rfl (by kernel_rfl) ?_|refine tri_drawP hE 2 rfl rfl (by kernel_rfl) ?_|refine tri_drawP hE 3 rfl rfl (by kernel_rfl) ?_|refine tri_drawP hE 4 rfl rfl (by kernel_rfl) ?_); simp only [List.length_cons, List.length_nil, Nat.reduceAdd, Nat.reduceSub, List.take_succ_cons, List.take_zero, List.drop_succ_cons, List.drop_zero])); simp +contextual only [hnl, ↓kN, ↓kP, ↓kG, ↓qN, ↓qP, ↓qG, push_cast, Int.reduceEq, Int.reduceLT, Int.reduceLE, Int.reduceNeg, Nat.reduceLT, Nat.reduceLeDiff, Int.reduceToNat, Int.cast_ofNat_Int, Nat.reduceBEq, Nat.reduceMul, Nat.reduceEqDiff, reduceCtorEq, Nat.reduceAdd])|refine tri_block ?_|((first|refine tri_skip ?_|refine tri_exit ?_); simp only [thenQ, blockQ, if_true, if_false, Nat.reduceEqDiff, reduceCtorEq])|(refine tri_cond (by rfl) (fun hb => ?_) (fun hb => ?_) <;> (try simp only [decide_eq_true_eq, decide_eq_false_iff_not, Bool.not_eq_true', Bool.not_eq_false', reduceCtorEq, Bool.true_eq_false, Bool.false_eq_true] at hb) <;> (try omega))|refine tri_unk (by rfl) ?_ ?_|refine And.intro (by first|omega|(unfold InR; omega)|assumption|decide|exact ⟨_, _, rfl⟩) ?_|(refine ⟨fun hc => ?_, fun hc => ?_⟩)|(intro hc; try omega))
      refine hL3 _ (k + 1) (by omega) (by omega) ?_
      refine weak_of ?_ ?_ ?_ <;> simp only [push_cast, Int.reduceEq, Int.reduceLT, Int.reduceLE, Int.reduceNeg, Nat.reduceLT, Nat.reduceLeDiff, Int.reduceToNat, Int.cast_ofNat_Int, Nat.reduceBEq, Nat.reduceMul, Nat.reduceEqDiff, reduceCtorEq, Nat.reduceAdd]
      all_goals first | (left; rw [List.range_succ, List.map_append]; rfl) | skip
    · obtain rfl : k = b.length := by omega
      refine tri_weak (t := AS.of [(1, .one (.val (.sl .int) b)), (7, .one (.box 7)), (8, .one (.ref 16)), (11, .one (.box 11)), (13, .I b.length)] [(16, .deep 22 3 .int p)] [(7, .rcd [.nils, .nils]), (11, .rcd [.val (.sl .int) ((List.range a.length).map fun i => -(fr.getD i 0)), .val (.sl .int) ((List.range b.length).map fun j => fr.getD (a.length + j) 0)])]) ?_ ?_
      · refine weak_of ?_ ?_ ?_ <;> simp only [push_cast, Int.reduceEq, Int.reduceLT, Int.reduceLE, Int.reduceNeg, Nat.reduceLT, Nat.reduceLeDiff, Int.reduceToNat, Int.cast_ofNat_Int, Nat.reduceBEq, Nat.reduceMul, Nat.reduceEqDiff, reduceCtorEq, Nat.reduceAdd]
        all_goals skip
      repeat' (first|(refine goK (by assumption) ?_; iterate 4 (try clear hK K))|(refine tri_seqk fun K hK => ?_)|((first|refine tri_region hE rfl ?_|refine tri_ret ?_|((first|refine tri_drawP hE 1 rfl rfl (by kernel_rfl) ?_|refine tri_drawP hE 2 rfl rfl (by kernel_rfl) ?_|refine tri_drawP hE 3 rfl rfl (by kernel_rfl) ?_|refine tri_drawP hE 4 rfl rfl (by kernel_rfl) ?_); simp only [List.length_cons, List.length_nil, Nat.reduceAdd, Nat.reduceSub, List.take_succ_cons, List.take_zero, List.drop_succ_cons, List.drop_zero])); simp +contextual only [hnl, ↓kN, ↓kP, ↓kG, ↓qN, ↓qP, ↓qG, push_cast, Int.reduceEq, Int.reduceLT, Int.reduceLE, Int.reduceNeg, Nat.reduceLT, Nat.reduceLeDiff, Int.reduceToNat, Int.cast_ofNat_Int, Nat.reduceBEq, Nat.reduceMul, Nat.reduceEqDiff, reduceCtorEq, Nat.reduceAdd])|refine tri_block ?_|((first|refine tri_skip ?_|refine tri_exit ?_); simp only [thenQ, blockQ, if_true, if_false, Nat.reduceEqDiff, reduceCtorEq])|(refine tri_cond (by rfl) (fun hb => ?_) (fun hb => ?_) <;> (try simp only [decide_eq_true_eq, decide_eq_false_iff_not, Bool.not_eq_true', Bool.not_eq_false', reduceCtorEq, Bool.true_eq_false, Bool.false_eq_true] at hb) <;> (try omega))|refine tri_unk (by rfl) ?_ ?_|refine And.intro (by first|omega|(unfold InR; omega)|assumption|decide|exact ⟨_, _, rfl⟩) ?_|(refine ⟨fun hc => ?_, fun hc => ?_⟩)|(intro hc; try omega))
      all_goals skip
  · have hi : impL c p = true := decide_eq_true (by omega)
    obtain ⟨k1, k2, _, _⟩ := improve_next hpre i2 (by rw [← hN]; exact hl)
    have i1' : solveF c (a.length + b.length) n (impV c p (a.length + b.length)) = solveV a b c := by
      rw [← i1]
      rw [hN] at hl
      exact (if_neg hl).symm
    replace hnl := And.intro hnl hi
    repeat' (first|(refine goK (by assumption) ?_; iterate 4 (try clear hK K))|(refine tri_seqk fun K hK => ?_)|((first|refine tri_region hE rfl ?_|refine tri_ret ?_|((first|refine tri_drawP hE 1 rfl rfl (by kernel_rfl) ?_|refine tri_drawP hE 2 rfl rfl (by kernel_rfl) ?_|refine tri_drawP hE 3 rfl rfl (by kernel_rfl) ?_|refine tri_drawP hE 4 rfl rfl (by kernel_rfl) ?_); simp only [List.length_cons, List.length_nil, Nat.reduceAdd, Nat.reduceSub, List.take_succ_cons, List.take_zero, List.drop_succ_cons, List.drop_zero])); simp +contextual only [hnl, ↓kN, ↓kP, ↓kG, ↓qN, ↓qP, ↓qG, push_cast, Int.reduceEq, Int.reduceLT, Int.reduceLE, Int.reduceNeg, Nat.reduceLT, Nat.reduceLeDiff, Int.reduceToNat, Int.cast_ofNat_Int, Nat.reduceBEq, Nat.reduceMul, Nat.reduceEqDiff, reduceCtorEq, Nat.reduceAdd])|refine tri_block ?_|((first|refine tri_skip ?_|refine tri_exit ?_); simp only [thenQ, blockQ, if_true, if_false, Nat.reduceEqDiff, reduceCtorEq])|(refine tri_cond (by rfl) (fun hb => ?_) (fun hb => ?_) <;> (try simp only [decide_eq_true_eq, decide_eq_false_iff_not, Bool.not_eq_true', Bool.not_eq_false', reduceCtorEq, Bool.true_eq_false, Bool.false_eq_true] at hb) <;> (try omega))|refine tri_unk (by rfl) ?_ ?_|refine And.intro (by first|omega|(unfold InR; omega)|assumption|decide|exact ⟨_, _, rfl⟩) ?_|(refine ⟨fun hc => ?_, fun hc => ?_⟩)|(intro hc; try omega))
    refine hL _ (n, impV c p (a.length + b.length)) ⟨i1', k1, by dsimp only; omega⟩ (Nat.lt_succ_self n) ?_
    refine weak_of ?_ ?_ ?_ <;> simp only [push_cast, Int.reduceEq, Int.reduceLT, Int.reduceLE, Int.reduceNeg, Nat.reduceLT, Nat.reduceLeDiff, Int.reduceToNat, Int.cast_ofNat_Int, Nat.reduceBEq, Nat.reduceMul, Nat.reduceEqDiff, reduceCtorEq, Nat.reduceAdd]
    all_goals first | (rw [hN]; exact .inl rfl) | skip
end Go.Proofs.Ytogopoiohckpdad
