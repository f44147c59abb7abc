/- Links, exchanges of links and what they gain. Conditions: in each contract. -/
import Derived.Test.YtpfkipccbgdkjacG2
import Derived.Test.YtpfkipccbgdkjacV3
import Derived.Test.YtpfkipccbgdkjacP1
namespace Go.Proofs.Ytpfkipccbgdkjac
open Go.RowKit Go.VS
set_option linter.unusedSimpArgs false
set_option linter.unusedVariables false

abbrev Pr := Int × Int
@[push_cast] def comCon : Con := ⟨[.dat (.prod .int .int), .dat (.prod .int .int)], fun (x : Pr × Pr × Unit) => InR (x.1.1 - x.2.1.1) ∧ InR (x.1.2 - x.2.1.2), fun (x : Pr × Pr × Unit) => { res := [.val .int (if x.1.1 = x.2.1.1 then x.1.2 - x.2.1.2 else x.1.1 - x.2.1.1)] }⟩

theorem com_spec : FnSpec Try.prog 49 comCon := by
  refine FnSpec.of_tri' (E := know [] [] [] []) (know_ok all_nil all_nil all_nil) Try.func49 rfl rfl (by kernel_rfl) ?_
  intro C x hE hnl hfit hpre
  simp only [Try.ntmps49, Try.results49, maxLen, Nat.reduceSub, Nat.reducePow, Nat.reduceAdd, Int.cast_ofNat_Int, push_cast] at hnl hfit hpre ⊢
  obtain ⟨⟨(a : Int), (b : Int)⟩, ⟨(c : Int), (d : Int)⟩, _⟩ := x
  dsimp only at hfit hpre ⊢
  repeat' (first|(refine goK (by assumption) ?_; iterate 4 (try clear hK K))|(refine tri_seqk fun K hK => ?_)|((first|refine tri_region hE rfl ?_|refine tri_ret ?_); simp +contextual only [hnl, ↓kN, ↓kP, ↓kG, ↓qN, ↓qP, ↓qG, push_cast, Int.reduceEq, Int.reduceLT, Int.reduceLE, Int.reduceNeg, Nat.reduceLT, Nat.reduceLeDiff, Int.reduceToNat, Int.cast_ofNat_Int, Nat.reduceBEq, Nat.reduceMul, Nat.reduceEqDiff, reduceCtorEq, Nat.reduceAdd])|refine tri_block ?_|((first|refine tri_skip ?_|refine tri_exit ?_); simp only [thenQ, blockQ, if_true, if_false, Nat.reduceEqDiff, reduceCtorEq])|(refine tri_cond (by rfl) (fun hb => ?_) (fun hb => ?_) <;> (try simp only [decide_eq_true_eq, decide_eq_false_iff_not, Bool.not_eq_true', Bool.not_eq_false', reduceCtorEq, Bool.true_eq_false, Bool.false_eq_true] at hb) <;> (try omega))|refine tri_unk (by rfl) ?_ ?_|refine And.intro (by first|omega|(unfold InR; omega)|assumption|decide|exact ⟨_, _, rfl⟩) ?_|(refine ⟨fun hc => ?_, fun hc => ?_⟩)|(intro hc; try omega))
  · refine ⟨hpre.1, ?_⟩
    repeat' (first|(refine goK (by assumption) ?_; iterate 4 (try clear hK K))|(refine tri_seqk fun K hK => ?_)|((first|refine tri_region hE rfl ?_|refine tri_ret ?_); simp +contextual only [hnl, ↓kN, ↓kP, ↓kG, ↓qN, ↓qP, ↓qG, push_cast, Int.reduceEq, Int.reduceLT, Int.reduceLE, Int.reduceNeg, Nat.reduceLT, Nat.reduceLeDiff, Int.reduceToNat, Int.cast_ofNat_Int, Nat.reduceBEq, Nat.reduceMul, Nat.reduceEqDiff, reduceCtorEq, Nat.reduceAdd])|refine tri_block ?_|((first|refine tri_skip ?_|refine tri_exit ?_); simp only [thenQ, blockQ, if_true, if_false, Nat.reduceEqDiff, reduceCtorEq])|(refine tri_cond (by rfl) (fun hb => ?_) (fun hb => ?_) <;> (try simp only [decide_eq_true_eq, decide_eq_false_iff_not, Bool.not_eq_true', Bool.not_eq_false', reduceCtorEq, Bool.true_eq_false, Bool.false_eq_true] at hb) <;> (try omega))|refine tri_unk (by rfl) ?_ ?_|refine And.intro (by first|omega|(unfold InR; omega)|assumption|decide|exact ⟨_, _, rfl⟩) ?_|(refine ⟨fun hc => ?_, fun hc => ?_⟩)|(intro hc; try omega))
    exact (if_neg hb).symm
  · refine ⟨hpre.2, ?_⟩
    repeat' (first|(refine goK (by assumption) ?_; iterate 4 (try clear hK K))|(refine tri_seqk fun K hK => ?_)|((first|refine tri_region hE rfl ?_|refine tri_ret ?_); simp +contextual only [hnl, ↓kN, ↓kP, ↓kG, ↓qN, ↓qP, ↓qG, push_cast, Int.reduceEq, Int.reduceLT, Int.reduceLE, Int.reduceNeg, Nat.reduceLT, Nat.reduceLeDiff, Int.reduceToNat, Int.cast_ofNat_Int, Nat.reduceBEq, Nat.reduceMul, Nat.reduceEqDiff, reduceCtorEq, Nat.reduceAdd])|refine tri_block ?_|((first|refine tri_skip ?_|refine tri_exit ?_); simp only [thenQ, blockQ, if_true, if_false, Nat.reduceEqDiff, reduceCtorEq])|(refine tri_cond (by rfl) (fun hb => ?_) (fun hb => ?_) <;> (try simp only [decide_eq_true_eq, decide_eq_false_iff_not, Bool.not_eq_true', Bool.not_eq_false', reduceCtorEq, Bool.true_eq_false, Bool.false_eq_true] at hb) <;> (try omega))|refine tri_unk (by rfl) ?_ ?_|refine And.intro (by first|omega|(unfold InR; omega)|assumption|decide|exact ⟨_, _, rfl⟩) ?_|(refine ⟨fun hc => ?_, fun hc => ?_⟩)|(intro hc; try omega))
    exact (if_pos (by omega)).symm

def toP (l : List Pr) (i : Nat) : Pr := l.getD i (0, 0)
@[push_cast] def indexPCon : Con := ⟨[.dat (.sl (.prod .int .int)), .fnc [.prod .int .int] .bool], fun (x : List Pr × ((Pr × Unit → Prop) × (Pr × Unit → Bool)) × Unit) => ∀ y, x.2.1.1 y, fun (x : List Pr × ((Pr × Unit → Prop) × (Pr × Unit → Bool)) × Unit) => { res := [.val .int (findI (fun y => x.2.1.2 (y, ())) x.1)] }⟩
@[push_cast] def containsPCon : Con := ⟨[.dat (.sl (.prod .int .int)), .fnc [.prod .int .int] .bool], fun (x : List Pr × ((Pr × Unit → Prop) × (Pr × Unit → Bool)) × Unit) => ∀ y, x.2.1.1 y, fun (x : List Pr × ((Pr × Unit → Prop) × (Pr × Unit → Bool)) × Unit) => { res := [.val .bool (x.1.any fun y => x.2.1.2 (y, ()))] }⟩
@[push_cast] def findPCon : Con := ⟨[.dat (.sl (.prod .int .int)), .dat (.prod .int .int)], fun _ => True, fun (x : List Pr × Pr × Unit) => { res := [.val .int (findI (fun y => decide (y = x.2.1)) x.1)] }⟩
@[push_cast] def hasPCon : Con := ⟨[.dat (.sl (.prod .int .int)), .dat (.prod .int .int)], fun _ => True, fun (x : List Pr × Pr × Unit) => { res := [.val .bool (decide (x.2.1 ∈ x.1))] }⟩

theorem indexP_spec : FnSpec Try.prog 51 indexPCon := by
  refine FnSpec.of_tri' (E := know [] [] [] []) (know_ok all_nil all_nil all_nil) Try.func51 rfl rfl (by kernel_rfl) ?_
  intro C x hE hnl hfit hpre
  simp only [Try.ntmps51, Try.results51, maxLen, Nat.reduceSub, Nat.reducePow, Nat.reduceAdd, Int.cast_ofNat_Int, push_cast] at hnl hfit hpre ⊢
  obtain ⟨(l : List Pr), ⟨q, p⟩, _⟩ := x
  dsimp only at hfit hpre ⊢
  repeat' (first|(refine goK (by assumption) ?_; iterate 4 (try clear hK K))|(refine tri_seqk fun K hK => ?_)|((first|refine tri_region hE rfl ?_|refine tri_ret ?_); simp +contextual only [hnl, ↓kN, ↓kP, ↓kG, ↓qN, ↓qP, ↓qG, push_cast, Int.reduceEq, Int.reduceLT, Int.reduceLE, Int.reduceNeg, Nat.reduceLT, Nat.reduceLeDiff, Int.reduceToNat, Int.cast_ofNat_Int, Nat.reduceBEq, Nat.reduceMul, Nat.reduceEqDiff, reduceCtorEq, Nat.reduceAdd])|refine tri_block ?_|((first|refine tri_skip ?_|refine tri_exit ?_); simp only [thenQ, blockQ, if_true, if_false, Nat.reduceEqDiff, reduceCtorEq])|(refine tri_cond (by rfl) (fun hb => ?_) (fun hb => ?_) <;> (try simp only [decide_eq_true_eq, decide_eq_false_iff_not, Bool.not_eq_true', Bool.not_eq_false', reduceCtorEq, Bool.true_eq_false, Bool.false_eq_true] at hb) <;> (try omega))|refine tri_unk (by rfl) ?_ ?_|refine And.intro (by first|omega|(unfold InR; omega)|assumption|decide|exact ⟨_, _, rfl⟩) ?_|(refine ⟨fun hc => ?_, fun hc => ?_⟩)|(intro hc; try omega))
  refine tri_loopI (fun k : Nat => AS.of [(0, .one (.val (.sl (.prod .int .int)) l)), (1, .one (.fnv [.prod .int .int] .bool q p)), (6, .one (.val (.sl (.prod .int .int)) l)), (7, .I l.length), (8, .I k)] [] []) (fun k => k ≤ l.length ∧ findI (fun y => p (y, ())) l = (if findI (fun y => p (y, ())) (l.drop k) < 0 then -1 else findI (fun y => p (y, ())) (l.drop k) + k)) (fun k => l.length - k) 0 ⟨Nat.zero_le _, ?_⟩ ?_ ?_
  · simp only [List.drop_zero]
    split
    · exact findI_neg _ l (by assumption)
    · simp
  · refine weak_of ?_ ?_ ?_ <;> simp only [push_cast, Int.reduceEq, Int.reduceLT, Int.reduceLE, Int.reduceNeg, Nat.reduceLT, Nat.reduceLeDiff, Int.reduceToNat, Int.cast_ofNat_Int, Nat.reduceBEq, Nat.reduceMul, Nat.reduceEqDiff, reduceCtorEq, Nat.reduceAdd]
  intro k ⟨hk, hf⟩ K' hL
  repeat' (first|(refine goK (by assumption) ?_; iterate 4 (try clear hK K))|(refine tri_seqk fun K hK => ?_)|((first|refine tri_region hE rfl ?_|refine tri_ret ?_); simp +contextual only [hnl, ↓kN, ↓kP, ↓kG, ↓qN, ↓qP, ↓qG, push_cast, Int.reduceEq, Int.reduceLT, Int.reduceLE, Int.reduceNeg, Nat.reduceLT, Nat.reduceLeDiff, Int.reduceToNat, Int.cast_ofNat_Int, Nat.reduceBEq, Nat.reduceMul, Nat.reduceEqDiff, reduceCtorEq, Nat.reduceAdd])|refine tri_block ?_|((first|refine tri_skip ?_|refine tri_exit ?_); simp only [thenQ, blockQ, if_true, if_false, Nat.reduceEqDiff, reduceCtorEq])|(refine tri_cond (by rfl) (fun hb => ?_) (fun hb => ?_) <;> (try simp only [decide_eq_true_eq, decide_eq_false_iff_not, Bool.not_eq_true', Bool.not_eq_false', reduceCtorEq, Bool.true_eq_false, Bool.false_eq_true] at hb) <;> (try omega))|refine tri_unk (by rfl) ?_ ?_|refine And.intro (by first|omega|(unfold InR; omega)|assumption|decide|exact ⟨_, _, rfl⟩) ?_|(refine ⟨fun hc => ?_, fun hc => ?_⟩)|(intro hc; try omega))
  · rw [drop_getD (0, 0) (by omega)] at hf
    refine ⟨hpre _, ?_⟩
    repeat' (first|(refine goK (by assumption) ?_; iterate 4 (try clear hK K))|(refine tri_seqk fun K hK => ?_)|((first|refine tri_region hE rfl ?_|refine tri_ret ?_); simp +contextual only [hnl, ↓kN, ↓kP, ↓kG, ↓qN, ↓qP, ↓qG, push_cast, Int.reduceEq, Int.reduceLT, Int.reduceLE, Int.reduceNeg, Nat.reduceLT, Nat.reduceLeDiff, Int.reduceToNat, Int.cast_ofNat_Int, Nat.reduceBEq, Nat.reduceMul, Nat.reduceEqDiff, reduceCtorEq, Nat.reduceAdd])|refine tri_block ?_|((first|refine tri_skip ?_|refine tri_exit ?_); simp only [thenQ, blockQ, if_true, if_false, Nat.reduceEqDiff, reduceCtorEq])|(refine tri_cond (by rfl) (fun hb => ?_) (fun hb => ?_) <;> (try simp only [decide_eq_true_eq, decide_eq_false_iff_not, Bool.not_eq_true', Bool.not_eq_false', reduceCtorEq, Bool.true_eq_false, Bool.false_eq_true] at hb) <;> (try omega))|refine tri_unk (by rfl) ?_ ?_|refine And.intro (by first|omega|(unfold InR; omega)|assumption|decide|exact ⟨_, _, rfl⟩) ?_|(refine ⟨fun hc => ?_, fun hc => ?_⟩)|(intro hc; try omega))
    · rw [hf]
      simp only [findI, hb, if_true]
      simp
    · refine hL _ (k + 1) ⟨by omega, ?_⟩ (by omega) ?_
      · rw [hf]
        simp only [findI, hb]
        have := findI_ge (fun y => p (y, ())) (l.drop (k + 1))
        simp
        split <;> split <;> omega
      refine weak_of ?_ ?_ ?_ <;> simp only [push_cast, Int.reduceEq, Int.reduceLT, Int.reduceLE, Int.reduceNeg, Nat.reduceLT, Nat.reduceLeDiff, Int.reduceToNat, Int.cast_ofNat_Int, Nat.reduceBEq, Nat.reduceMul, Nat.reduceEqDiff, reduceCtorEq, Nat.reduceAdd]
  · obtain rfl : k = l.length := by omega
    rw [hf]
    simp [findI]

theorem containsP_spec : FnSpec Try.prog 38 containsPCon := by
  refine FnSpec.of_tri' (E := know [(51, indexPCon)] [] [] []) (know_ok (all_cons indexP_spec all_nil) all_nil all_nil) Try.func38 rfl rfl (by kernel_rfl) ?_
  intro C x hE hnl hfit hpre
  simp only [Try.ntmps38, Try.results38, maxLen, Nat.reduceSub, Nat.reducePow, Nat.reduceAdd, Int.cast_ofNat_Int, push_cast] at hnl hfit hpre ⊢
  obtain ⟨(l : List Pr), ⟨q, p⟩, _⟩ := x
  dsimp only at hfit hpre ⊢
  repeat' (first|(refine goK (by assumption) ?_; iterate 4 (try clear hK K))|(refine tri_seqk fun K hK => ?_)|((first|refine tri_region hE rfl ?_|refine tri_ret ?_); simp +contextual only [hnl, ↓kN, ↓kP, ↓kG, ↓qN, ↓qP, ↓qG, push_cast, Int.reduceEq, Int.reduceLT, Int.reduceLE, Int.reduceNeg, Nat.reduceLT, Nat.reduceLeDiff, Int.reduceToNat, Int.cast_ofNat_Int, Nat.reduceBEq, Nat.reduceMul, Nat.reduceEqDiff, reduceCtorEq, Nat.reduceAdd])|refine tri_block ?_|((first|refine tri_skip ?_|refine tri_exit ?_); simp only [thenQ, blockQ, if_true, if_false, Nat.reduceEqDiff, reduceCtorEq])|(refine tri_cond (by rfl) (fun hb => ?_) (fun hb => ?_) <;> (try simp only [decide_eq_true_eq, decide_eq_false_iff_not, Bool.not_eq_true', Bool.not_eq_false', reduceCtorEq, Bool.true_eq_false, Bool.false_eq_true] at hb) <;> (try omega))|refine tri_unk (by rfl) ?_ ?_|refine And.intro (by first|omega|(unfold InR; omega)|assumption|decide|exact ⟨_, _, rfl⟩) ?_|(refine ⟨fun hc => ?_, fun hc => ?_⟩)|(intro hc; try omega))
  have := findI_any (fun y => p (y, ())) l
  by_cases h : 0 ≤ findI (fun y => p (y, ())) l
  · rw [decide_eq_true h, this.1 h]
  · rw [decide_eq_false h]
    symm
    rw [Bool.eq_false_iff]
    exact fun h2 => h (this.2 h2)

theorem findP_spec : FnSpec Try.prog 52 findPCon := by
  refine FnSpec.of_tri' (E := know [] [] [] []) (know_ok all_nil all_nil all_nil) Try.func52 rfl rfl (by kernel_rfl) ?_
  intro C x hE hnl hfit hpre
  simp only [Try.ntmps52, Try.results52, maxLen, Nat.reduceSub, Nat.reducePow, Nat.reduceAdd, Int.cast_ofNat_Int, push_cast] at hnl hfit hpre ⊢
  obtain ⟨(l : List Pr), (v : Pr), _⟩ := x
  dsimp only at hfit hpre ⊢
  repeat' (first|(refine goK (by assumption) ?_; iterate 4 (try clear hK K))|(refine tri_seqk fun K hK => ?_)|((first|refine tri_region hE rfl ?_|refine tri_ret ?_|((first|refine tri_drawP hE 1 rfl rfl (by kernel_rfl) ?_|refine tri_drawP hE 2 rfl rfl (by kernel_rfl) ?_|refine tri_drawP hE 3 rfl rfl (by kernel_rfl) ?_|refine tri_drawP hE 4 rfl rfl (by kernel_rfl) ?_); simp only [List.length_cons, List.length_nil, Nat.reduceAdd, Nat.reduceSub, List.take_succ_cons, List.take_zero, List.drop_succ_cons, List.drop_zero])); simp +contextual only [hnl, ↓kN, ↓kP, ↓kG, ↓qN, ↓qP, ↓qG, push_cast, Int.reduceEq, Int.reduceLT, Int.reduceLE, Int.reduceNeg, Nat.reduceLT, Nat.reduceLeDiff, Int.reduceToNat, Int.cast_ofNat_Int, Nat.reduceBEq, Nat.reduceMul, Nat.reduceEqDiff, reduceCtorEq, Nat.reduceAdd])|refine tri_block ?_|((first|refine tri_skip ?_|refine tri_exit ?_); simp only [thenQ, blockQ, if_true, if_false, Nat.reduceEqDiff, reduceCtorEq])|(refine tri_cond (by rfl) (fun hb => ?_) (fun hb => ?_) <;> (try simp only [decide_eq_true_eq, decide_eq_false_iff_not, Bool.not_eq_true', Bool.not_eq_false', reduceCtorEq, Bool.true_eq_false, Bool.false_eq_true] at hb) <;> (try omega))|refine tri_unk (by rfl) ?_ ?_|refine And.intro (by first|omega|(unfold InR; omega)|assumption|decide|exact ⟨_, _, rfl⟩) ?_|(refine ⟨fun hc => ?_, fun hc => ?_⟩)|(intro hc; try omega))
  refine tri_loopI (fun k : Nat => AS.of [(0, .one (.val (.sl (.prod .int .int)) l)), (3, .one (.box 3)), (6, .one (.val (.sl (.prod .int .int)) l)), (7, .I l.length), (8, .I k)] [] [(3, .one (.val (.prod .int .int) v))]) (fun k => k ≤ l.length ∧ findI (fun y => decide (y = v)) l = (if findI (fun y => decide (y = v)) (l.drop k) < 0 then -1 else findI (fun y => decide (y = v)) (l.drop k) + k)) (fun k => l.length - k) 0 ⟨Nat.zero_le _, ?_⟩ ?_ ?_
  · simp only [List.drop_zero]
    split
    · exact findI_neg _ l (by assumption)
    · simp
  · refine weak_of ?_ ?_ ?_ <;> simp only [push_cast, Int.reduceEq, Int.reduceLT, Int.reduceLE, Int.reduceNeg, Nat.reduceLT, Nat.reduceLeDiff, Int.reduceToNat, Int.cast_ofNat_Int, Nat.reduceBEq, Nat.reduceMul, Nat.reduceEqDiff, reduceCtorEq, Nat.reduceAdd]
  intro k ⟨hk, hf⟩ K' hL
  repeat' (first|(refine goK (by assumption) ?_; iterate 4 (try clear hK K))|(refine tri_seqk fun K hK => ?_)|((first|refine tri_region hE rfl ?_|refine tri_ret ?_|((first|refine tri_drawP hE 1 rfl rfl (by kernel_rfl) ?_|refine tri_drawP hE 2 rfl rfl (by kernel_rfl) ?_|refine tri_drawP hE 3 rfl rfl (by kernel_rfl) ?_|refine tri_drawP hE 4 rfl rfl (by kernel_rfl) ?_); simp only [List.length_cons, List.length_nil, Nat.reduceAdd, Nat.reduceSub, List.take_succ_cons, List.take_zero, List.drop_succ_cons, List.drop_zero])); simp +contextual only [hnl, ↓kN, ↓kP, ↓kG, ↓qN, ↓qP, ↓qG, push_cast, Int.reduceEq, Int.reduceLT, Int.reduceLE, Int.reduceNeg, Nat.reduceLT, Nat.reduceLeDiff, Int.reduceToNat, Int.cast_ofNat_Int, Nat.reduceBEq, Nat.reduceMul, Nat.reduceEqDiff, reduceCtorEq, Nat.reduceAdd])|refine tri_block ?_|((first|refine tri_skip ?_|refine tri_exit ?_); simp only [thenQ, blockQ, if_true, if_false, Nat.reduceEqDiff, reduceCtorEq])|(refine tri_cond (by rfl) (fun hb => ?_) (fun hb => ?_) <;> (try simp only [decide_eq_true_eq, decide_eq_false_iff_not, Bool.not_eq_true', Bool.not_eq_false', reduceCtorEq, Bool.true_eq_false, Bool.false_eq_true] at hb) <;> (try omega))|refine tri_unk (by rfl) ?_ ?_|refine And.intro (by first|omega|(unfold InR; omega)|assumption|decide|exact ⟨_, _, rfl⟩) ?_|(refine ⟨fun hc => ?_, fun hc => ?_⟩)|(intro hc; try omega))
  · rw [drop_getD (0, 0) (by omega)] at hf
    rw [hf]
    simp only [findI, hb, decide_true, if_true]
    simp
  · rw [drop_getD (0, 0) (by omega)] at hf
    refine hL _ (k + 1) ⟨by omega, ?_⟩ (by omega) ?_
    · rw [hf]
      have h2 : ¬ l.getD k (0, 0) = v := fun h => hb h.symm
      simp only [findI, h2, decide_false]
      have := findI_ge (fun y => decide (y = v)) (l.drop (k + 1))
      simp
      split <;> split <;> omega
    refine weak_of ?_ ?_ ?_ <;> simp only [push_cast, Int.reduceEq, Int.reduceLT, Int.reduceLE, Int.reduceNeg, Nat.reduceLT, Nat.reduceLeDiff, Int.reduceToNat, Int.cast_ofNat_Int, Nat.reduceBEq, Nat.reduceMul, Nat.reduceEqDiff, reduceCtorEq, Nat.reduceAdd]
  · obtain rfl : k = l.length := by omega
    rw [hf]
    simp [findI]

theorem hasP_spec : FnSpec Try.prog 40 hasPCon := by
  refine FnSpec.of_tri' (E := know [(52, findPCon)] [] [] []) (know_ok (all_cons findP_spec all_nil) all_nil all_nil) Try.func40 rfl rfl (by kernel_rfl) ?_
  intro C x hE hnl hfit hpre
  simp only [Try.ntmps40, Try.results40, maxLen, Nat.reduceSub, Nat.reducePow, Nat.reduceAdd, Int.cast_ofNat_Int, push_cast] at hnl hfit hpre ⊢
  obtain ⟨(l : List Pr), (v : Pr), _⟩ := x
  dsimp only at hfit hpre ⊢
  repeat' (first|(refine goK (by assumption) ?_; iterate 4 (try clear hK K))|(refine tri_seqk fun K hK => ?_)|((first|refine tri_region hE rfl ?_|refine tri_ret ?_); simp +contextual only [hnl, ↓kN, ↓kP, ↓kG, ↓qN, ↓qP, ↓qG, push_cast, Int.reduceEq, Int.reduceLT, Int.reduceLE, Int.reduceNeg, Nat.reduceLT, Nat.reduceLeDiff, Int.reduceToNat, Int.cast_ofNat_Int, Nat.reduceBEq, Nat.reduceMul, Nat.reduceEqDiff, reduceCtorEq, Nat.reduceAdd])|refine tri_block ?_|((first|refine tri_skip ?_|refine tri_exit ?_); simp only [thenQ, blockQ, if_true, if_false, Nat.reduceEqDiff, reduceCtorEq])|(refine tri_cond (by rfl) (fun hb => ?_) (fun hb => ?_) <;> (try simp only [decide_eq_true_eq, decide_eq_false_iff_not, Bool.not_eq_true', Bool.not_eq_false', reduceCtorEq, Bool.true_eq_false, Bool.false_eq_true] at hb) <;> (try omega))|refine tri_unk (by rfl) ?_ ?_|refine And.intro (by first|omega|(unfold InR; omega)|assumption|decide|exact ⟨_, _, rfl⟩) ?_|(refine ⟨fun hc => ?_, fun hc => ?_⟩)|(intro hc; try omega))
  refine decide_eq_decide.2 ((findI_any _ l).trans ?_)
  simp

@[push_cast] def outClo : Clo := ⟨[.sl (.prod .int .int)], [.prod .int .int], .bool, fun _ _ => True, fun (y : List Pr × Unit) (x : Pr × Unit) => !decide (x.1 ∈ y.1)⟩
@[push_cast] def outCon : Con := ⟨[.dat (.prod .int .int), .ptr (.sl (.prod .int .int))], fun _ => True, fun (x : Pr × List Pr × Unit) => { res := [.val .bool (!decide (x.1 ∈ x.2.1))] }⟩
theorem out_fn : FnSpec Try.prog 39 outCon := by
  refine FnSpec.of_tri' (E := know [(40, hasPCon)] [] [] []) (know_ok (all_cons hasP_spec all_nil) all_nil all_nil) Try.func39 rfl rfl (by kernel_rfl) ?_
  intro C x hE hnl hfit hpre
  simp only [Try.ntmps39, Try.results39, maxLen, Nat.reduceSub, Nat.reducePow, Nat.reduceAdd, Int.cast_ofNat_Int, push_cast] at hnl hfit hpre ⊢
  obtain ⟨(v : Pr), (l : List Pr), _⟩ := x
  dsimp only at hfit hpre ⊢
  repeat' (first|(refine goK (by assumption) ?_; iterate 4 (try clear hK K))|(refine tri_seqk fun K hK => ?_)|((first|refine tri_region hE rfl ?_|refine tri_ret ?_); simp +contextual only [hnl, ↓kN, ↓kP, ↓kG, ↓qN, ↓qP, ↓qG, push_cast, Int.reduceEq, Int.reduceLT, Int.reduceLE, Int.reduceNeg, Nat.reduceLT, Nat.reduceLeDiff, Int.reduceToNat, Int.cast_ofNat_Int, Nat.reduceBEq, Nat.reduceMul, Nat.reduceEqDiff, reduceCtorEq, Nat.reduceAdd])|refine tri_block ?_|((first|refine tri_skip ?_|refine tri_exit ?_); simp only [thenQ, blockQ, if_true, if_false, Nat.reduceEqDiff, reduceCtorEq])|(refine tri_cond (by rfl) (fun hb => ?_) (fun hb => ?_) <;> (try simp only [decide_eq_true_eq, decide_eq_false_iff_not, Bool.not_eq_true', Bool.not_eq_false', reduceCtorEq, Bool.true_eq_false, Bool.false_eq_true] at hb) <;> (try omega))|refine tri_unk (by rfl) ?_ ?_|refine And.intro (by first|omega|(unfold InR; omega)|assumption|decide|exact ⟨_, _, rfl⟩) ?_|(refine ⟨fun hc => ?_, fun hc => ?_⟩)|(intro hc; try omega))
theorem out_spec : CloSpec Try.prog 39 outClo := CloSpec.of out_fn
end Go.Proofs.Ytpfkipccbgdkjac

namespace Go.Proofs.Ytpfkipccbgdkjac
open Go.RowKit Go.VS
set_option linter.unusedSimpArgs false
set_option linter.unusedVariables false

def cAt (c : List (List Int)) (i j : Int) : Int := (c.getD i.toNat []).getD j.toNat 0
/-- A row and a column of the table. -/
structure InT (c : List (List Int)) (x : Pr) : Prop where
  r0 : 0 ≤ x.1
  r1 : x.1 < c.length
  c0 : 0 ≤ x.2
  c1 : x.2 < wid c
theorem inT_iff {c : List (List Int)} {x : Pr} : InT c x ↔ (0 ≤ x.1 ∧ x.1 < c.length ∧ 0 ≤ x.2 ∧ x.2 < wid c) := ⟨fun ⟨a, b, c, d⟩ => ⟨a, b, c, d⟩, fun ⟨a, b, c, d⟩ => ⟨a, b, c, d⟩⟩
instance (c : List (List Int)) (x : Pr) : Decidable (InT c x) := decidable_of_iff _ inT_iff.symm
def lexLt (x y : Pr) : Prop := x.1 < y.1 ∨ x.1 = y.1 ∧ x.2 < y.2
instance (x y : Pr) : Decidable (lexLt x y) := by unfold lexLt; infer_instance

/-- Links of a table, in ascending order. -/
structure Lnk (c : List (List Int)) (l : List Pr) : Prop where
  at' : ∀ i, i < l.length → InT c (toP l i)
  inc : ∀ i, i + 1 < l.length → lexLt (toP l i) (toP l (i + 1))
theorem lnk_iff {c : List (List Int)} {l : List Pr} : Lnk c l ↔ ((∀ i, i < l.length → InT c (toP l i)) ∧ ∀ i, i < l.length - 1 → lexLt (toP l i) (toP l (i + 1))) :=
  ⟨fun ⟨a, b⟩ => ⟨a, fun i hi => b i (by omega)⟩, fun ⟨a, b⟩ => ⟨a, fun i hi => b i (by omega)⟩⟩
instance (c : List (List Int)) (l : List Pr) : Decidable (Lnk c l) := decidable_of_iff _ lnk_iff.symm

def errLinks (c : List (List Int)) (l : List Pr) : Int := if InTab 0 99 c ∧ Lnk c l then 0 else 1
theorem errLinks_0 {c : List (List Int)} {l : List Pr} (h1 : InTab 0 99 c) (h2 : Lnk c l) : errLinks c l = 0 := if_pos ⟨h1, h2⟩
theorem errLinks_1 {c : List (List Int)} {l : List Pr} (h : ¬ (InTab 0 99 c ∧ Lnk c l)) : errLinks c l = 1 := if_neg h
theorem errLinks_01 (c : List (List Int)) (l : List Pr) : errLinks c l = 0 ∨ errLinks c l = 1 := by
  unfold errLinks
  split <;> simp
theorem errLinks_ok {c : List (List Int)} {l : List Pr} (h : errLinks c l = 0) : InTab 0 99 c ∧ Lnk c l := by
  by_cases h2 : InTab 0 99 c ∧ Lnk c l
  · exact h2
  · rw [errLinks_1 h2] at h; omega

@[push_cast] def linksCon : Con := ⟨[.dat (.sl (.sl .int)), .dat (.sl (.prod .int .int))], fun _ => True, fun (x : List (List Int) × List Pr × Unit) => { res := [.val .int (errLinks x.1 x.2.1)] }⟩

/-- The first k links are right. -/
structure LnkK (c : List (List Int)) (l : List Pr) (k : Nat) : Prop where
  at' : ∀ i, i < k → InT c (toP l i)
  inc : ∀ i, i + 1 < k → lexLt (toP l i) (toP l (i + 1))
theorem LnkK.all {c : List (List Int)} {l : List Pr} (h : LnkK c l l.length) : Lnk c l := ⟨h.at', h.inc⟩
theorem LnkK.step {c : List (List Int)} {l : List Pr} {k : Nat} (h : LnkK c l k) (h1 : InT c (toP l k)) (h2 : 0 < k → lexLt (toP l (k - 1)) (toP l k)) : LnkK c l (k + 1) := by
  refine ⟨fun i hi => ?_, fun i hi => ?_⟩
  · rcases Nat.lt_or_ge i k with h3 | h3
    · exact h.at' i h3
    · obtain rfl : i = k := by omega
      exact h1
  · rcases Nat.lt_or_ge (i + 1) k with h3 | h3
    · exact h.inc i h3
    · obtain rfl : k = i + 1 := by omega
      exact h2 (by omega)

theorem plinks_spec : FnSpec Try.prog 34 linksCon := by
  refine FnSpec.of_tri' (E := know [(32, costCon), (19, withinCon), (49, comCon)] [] [] []) (know_ok (all_cons pcost_spec (all_cons pwithin_spec (all_cons com_spec all_nil))) all_nil all_nil) Try.func34 rfl rfl (by kernel_rfl) ?_
  intro C x hE hnl hfit hpre
  simp only [Try.ntmps34, Try.results34, maxLen, Nat.reduceSub, Nat.reducePow, Nat.reduceAdd, Int.cast_ofNat_Int, push_cast] at hnl hfit hpre ⊢
  obtain ⟨(c : List (List Int)), (l : List Pr), _⟩ := x
  dsimp only at hfit hpre ⊢
  have hw : (c.getD 0 []).length = wid c := rfl
  by_cases hc : InTab 0 99 c
  · have hr := hc.rows
    have hcc := hc.cols
    replace hnl := And.intro hnl (And.intro (errCost_0 hc) hw)
    repeat' (first|(refine goK (by assumption) ?_; iterate 4 (try clear hK K))|(refine tri_seqk fun K hK => ?_)|((first|refine tri_region hE rfl ?_|refine tri_ret ?_|((first|refine tri_drawP hE 1 rfl rfl (by kernel_rfl) ?_|refine tri_drawP hE 2 rfl rfl (by kernel_rfl) ?_|refine tri_drawP hE 3 rfl rfl (by kernel_rfl) ?_|refine tri_drawP hE 4 rfl rfl (by kernel_rfl) ?_); simp only [List.length_cons, List.length_nil, Nat.reduceAdd, Nat.reduceSub, List.take_succ_cons, List.take_zero, List.drop_succ_cons, List.drop_zero])); simp +contextual only [hnl, ↓kN, ↓kP, ↓kG, ↓qN, ↓qP, ↓qG, push_cast, Int.reduceEq, Int.reduceLT, Int.reduceLE, Int.reduceNeg, Nat.reduceLT, Nat.reduceLeDiff, Int.reduceToNat, Int.cast_ofNat_Int, Nat.reduceBEq, Nat.reduceMul, Nat.reduceEqDiff, reduceCtorEq, Nat.reduceAdd])|refine tri_block ?_|((first|refine tri_skip ?_|refine tri_exit ?_); simp only [thenQ, blockQ, if_true, if_false, Nat.reduceEqDiff, reduceCtorEq])|(refine tri_cond (by rfl) (fun hb => ?_) (fun hb => ?_) <;> (try simp only [decide_eq_true_eq, decide_eq_false_iff_not, Bool.not_eq_true', Bool.not_eq_false', reduceCtorEq, Bool.true_eq_false, Bool.false_eq_true] at hb) <;> (try omega))|refine tri_unk (by rfl) ?_ ?_|refine And.intro (by first|omega|(unfold InR; omega)|assumption|decide|exact ⟨_, _, rfl⟩) ?_|(refine ⟨fun hc => ?_, fun hc => ?_⟩)|(intro hc; try omega))
    refine tri_loopI (fun k : Nat => AS.of [(0, .one (.val (.sl (.sl .int)) c)), (1, .one (.val (.sl (.prod .int .int)) l)), (13, .one (.val (.sl (.prod .int .int)) l)), (14, .I l.length), (15, .I k)] [] []) (fun k => k ≤ l.length ∧ LnkK c l k) (fun k => l.length - k) 0 ⟨Nat.zero_le _, ⟨by omega, by omega⟩⟩ ?_ ?_
    · refine weak_of ?_ ?_ ?_ <;> simp only [push_cast, Int.reduceEq, Int.reduceLT, Int.reduceLE, Int.reduceNeg, Nat.reduceLT, Nat.reduceLeDiff, Int.reduceToNat, Int.cast_ofNat_Int, Nat.reduceBEq, Nat.reduceMul, Nat.reduceEqDiff, reduceCtorEq, Nat.reduceAdd]
    intro k ⟨hk, hall⟩ K' hL
    have hkk : ((k : Int) - 1).toNat = k - 1 := by omega
    have hpv : 0 < k → InT c (l.getD (k - 1) (0, 0)) := fun h => hall.at' (k - 1) (by omega)
    have hno : k < l.length → ¬ InT c (l.getD k (0, 0)) → errLinks c l = 1 := fun h1 h2 => errLinks_1 fun h => h2 (h.2.at' k h1)
    have hno2 : k < l.length → 0 < k → ¬ lexLt (l.getD (k - 1) (0, 0)) (l.getD k (0, 0)) → errLinks c l = 1 := fun h1 h2 h3 => errLinks_1 fun h => h3 (by
      have := h.2.inc (k - 1) (by omega)
      rw [show k - 1 + 1 = k by omega] at this
      exact this)
    have hgo : InT c (l.getD k (0, 0)) → (0 < k → lexLt (l.getD (k - 1) (0, 0)) (l.getD k (0, 0))) → LnkK c l (k + 1) := fun h1 h2 => hall.step h1 h2
    replace hnl := And.intro hnl hkk
    repeat' (first|(refine goK (by assumption) ?_; iterate 4 (try clear hK K))|(refine tri_seqk fun K hK => ?_)|((first|refine tri_region hE rfl ?_|refine tri_ret ?_|((first|refine tri_drawP hE 1 rfl rfl (by kernel_rfl) ?_|refine tri_drawP hE 2 rfl rfl (by kernel_rfl) ?_|refine tri_drawP hE 3 rfl rfl (by kernel_rfl) ?_|refine tri_drawP hE 4 rfl rfl (by kernel_rfl) ?_); simp only [List.length_cons, List.length_nil, Nat.reduceAdd, Nat.reduceSub, List.take_succ_cons, List.take_zero, List.drop_succ_cons, List.drop_zero])); simp +contextual only [hnl, ↓kN, ↓kP, ↓kG, ↓qN, ↓qP, ↓qG, push_cast, Int.reduceEq, Int.reduceLT, Int.reduceLE, Int.reduceNeg, Nat.reduceLT, Nat.reduceLeDiff, Int.reduceToNat, Int.cast_ofNat_Int, Nat.reduceBEq, Nat.reduceMul, Nat.reduceEqDiff, reduceCtorEq, Nat.reduceAdd])|refine tri_block ?_|((first|refine tri_skip ?_|refine tri_exit ?_); simp only [thenQ, blockQ, if_true, if_false, Nat.reduceEqDiff, reduceCtorEq])|(refine tri_cond (by rfl) (fun hb => ?_) (fun hb => ?_) <;> (try simp only [decide_eq_true_eq, decide_eq_false_iff_not, Bool.not_eq_true', Bool.not_eq_false', reduceCtorEq, Bool.true_eq_false, Bool.false_eq_true] at hb) <;> (try omega))|refine tri_unk (by rfl) ?_ ?_|refine And.intro (by first|omega|(unfold InR; omega)|assumption|decide|exact ⟨_, _, rfl⟩) ?_|(refine ⟨fun hc => ?_, fun hc => ?_⟩)|(intro hc; try omega))
    · have hp1 := hpv (by omega)
      obtain ⟨q1, q2, q3, q4⟩ := hp1
      refine ⟨⟨by unfold InR; omega, by unfold InR; omega⟩, ?_⟩
      repeat' (first|(refine goK (by assumption) ?_; iterate 4 (try clear hK K))|(refine tri_seqk fun K hK => ?_)|((first|refine tri_region hE rfl ?_|refine tri_ret ?_|((first|refine tri_drawP hE 1 rfl rfl (by kernel_rfl) ?_|refine tri_drawP hE 2 rfl rfl (by kernel_rfl) ?_|refine tri_drawP hE 3 rfl rfl (by kernel_rfl) ?_|refine tri_drawP hE 4 rfl rfl (by kernel_rfl) ?_); simp only [List.length_cons, List.length_nil, Nat.reduceAdd, Nat.reduceSub, List.take_succ_cons, List.take_zero, List.drop_succ_cons, List.drop_zero])); simp +contextual only [hnl, ↓kN, ↓kP, ↓kG, ↓qN, ↓qP, ↓qG, push_cast, Int.reduceEq, Int.reduceLT, Int.reduceLE, Int.reduceNeg, Nat.reduceLT, Nat.reduceLeDiff, Int.reduceToNat, Int.cast_ofNat_Int, Nat.reduceBEq, Nat.reduceMul, Nat.reduceEqDiff, reduceCtorEq, Nat.reduceAdd])|refine tri_block ?_|((first|refine tri_skip ?_|refine tri_exit ?_); simp only [thenQ, blockQ, if_true, if_false, Nat.reduceEqDiff, reduceCtorEq])|(refine tri_cond (by rfl) (fun hb => ?_) (fun hb => ?_) <;> (try simp only [decide_eq_true_eq, decide_eq_false_iff_not, Bool.not_eq_true', Bool.not_eq_false', reduceCtorEq, Bool.true_eq_false, Bool.false_eq_true] at hb) <;> (try omega))|refine tri_unk (by rfl) ?_ ?_|refine And.intro (by first|omega|(unfold InR; omega)|assumption|decide|exact ⟨_, _, rfl⟩) ?_|(refine ⟨fun hc => ?_, fun hc => ?_⟩)|(intro hc; try omega))
      · exact (hno2 (by omega) (by omega) fun h => by unfold lexLt at h; split at hb <;> omega).symm
      · refine hL _ (k + 1) ⟨by omega, hgo ⟨by omega, by omega, by omega, by omega⟩ fun _ => by unfold lexLt; split at hb <;> omega⟩ (by omega) ?_
        refine weak_of ?_ ?_ ?_ <;> simp only [push_cast, Int.reduceEq, Int.reduceLT, Int.reduceLE, Int.reduceNeg, Nat.reduceLT, Nat.reduceLeDiff, Int.reduceToNat, Int.cast_ofNat_Int, Nat.reduceBEq, Nat.reduceMul, Nat.reduceEqDiff, reduceCtorEq, Nat.reduceAdd]
    · refine hL _ (k + 1) ⟨by omega, hgo ⟨by omega, by omega, by omega, by omega⟩ fun h => by omega⟩ (by omega) ?_
      refine weak_of ?_ ?_ ?_ <;> simp only [push_cast, Int.reduceEq, Int.reduceLT, Int.reduceLE, Int.reduceNeg, Nat.reduceLT, Nat.reduceLeDiff, Int.reduceToNat, Int.cast_ofNat_Int, Nat.reduceBEq, Nat.reduceMul, Nat.reduceEqDiff, reduceCtorEq, Nat.reduceAdd]
    · exact (hno (by omega) fun ⟨h1, h2, h3, h4⟩ => by omega).symm
    · exact (hno (by omega) fun ⟨h1, h2, h3, h4⟩ => by omega).symm
    · obtain rfl : k = l.length := by omega
      exact (errLinks_0 hc hall.all).symm
  · replace hnl := And.intro hnl (errCost_1 hc)
    repeat' (first|(refine goK (by assumption) ?_; iterate 4 (try clear hK K))|(refine tri_seqk fun K hK => ?_)|((first|refine tri_region hE rfl ?_|refine tri_ret ?_|((first|refine tri_drawP hE 1 rfl rfl (by kernel_rfl) ?_|refine tri_drawP hE 2 rfl rfl (by kernel_rfl) ?_|refine tri_drawP hE 3 rfl rfl (by kernel_rfl) ?_|refine tri_drawP hE 4 rfl rfl (by kernel_rfl) ?_); simp only [List.length_cons, List.length_nil, Nat.reduceAdd, Nat.reduceSub, List.take_succ_cons, List.take_zero, List.drop_succ_cons, List.drop_zero])); simp +contextual only [hnl, ↓kN, ↓kP, ↓kG, ↓qN, ↓qP, ↓qG, push_cast, Int.reduceEq, Int.reduceLT, Int.reduceLE, Int.reduceNeg, Nat.reduceLT, Nat.reduceLeDiff, Int.reduceToNat, Int.cast_ofNat_Int, Nat.reduceBEq, Nat.reduceMul, Nat.reduceEqDiff, reduceCtorEq, Nat.reduceAdd])|refine tri_block ?_|((first|refine tri_skip ?_|refine tri_exit ?_); simp only [thenQ, blockQ, if_true, if_false, Nat.reduceEqDiff, reduceCtorEq])|(refine tri_cond (by rfl) (fun hb => ?_) (fun hb => ?_) <;> (try simp only [decide_eq_true_eq, decide_eq_false_iff_not, Bool.not_eq_true', Bool.not_eq_false', reduceCtorEq, Bool.true_eq_false, Bool.false_eq_true] at hb) <;> (try omega))|refine tri_unk (by rfl) ?_ ?_|refine And.intro (by first|omega|(unfold InR; omega)|assumption|decide|exact ⟨_, _, rfl⟩) ?_|(refine ⟨fun hc => ?_, fun hc => ?_⟩)|(intro hc; try omega))
    exact (errLinks_1 fun h => hc h.1).symm

@[push_cast] def lexCon : Con := ⟨[.dat (.prod .int .int), .dat (.prod .int .int)], fun _ => True, fun (x : Pr × Pr × Unit) => { res := [.val .bool (decide (lexLt x.1 x.2.1))] }⟩
end Go.Proofs.Ytpfkipccbgdkjac

namespace Go.Proofs.Ytpfkipccbgdkjac
open Go.RowKit Go.VS
set_option linter.unusedSimpArgs false
set_option linter.unusedVariables false

/-- The difference if a link gets another one's column. -/
def lossV (c : List (List Int)) (r : List Pr) (i j : Nat) : Int := cAt c (toP r i).1 (toP r j).2 - cAt c (toP r i).1 (toP r i).2
def gainK (c : List (List Int)) (r : List Pr) : Nat → Int
  | 0 => 0
  | k + 1 => gainK c r k - lossV c r k ((k + 1) % r.length)

abbrev Exch := List (List Int) × List Pr
structure LossPre (x : Exch) (i j : Int) : Prop where
  tab : InTab 0 99 x.1
  links : ∀ k, k < x.2.length → InT x.1 (toP x.2 k)
  i0 : 0 ≤ i ∧ i < x.2.length
  j0 : 0 ≤ j ∧ j < x.2.length
theorem InTab.cAt {c : List (List Int)} (h : InTab 0 99 c) {x y : Pr} (hx : InT c x) (hy : InT c y) : 0 ≤ Go.Proofs.Ytpfkipccbgdkjac.cAt c x.1 y.2 ∧ Go.Proofs.Ytpfkipccbgdkjac.cAt c x.1 y.2 ≤ 99 :=
  h.at (by have := hx.r0; have := hx.r1; omega) (by have := hy.c0; have := hy.c1; omega)
theorem InTab.loss {c : List (List Int)} (h : InTab 0 99 c) {r : List Pr} (hr : ∀ k, k < r.length → InT c (toP r k)) {i j : Nat} (hi : i < r.length) (hj : j < r.length) : -99 ≤ lossV c r i j ∧ lossV c r i j ≤ 99 := by
  have h1 := h.cAt (hr i hi) (hr i hi)
  have h2 := h.cAt (hr i hi) (hr j hj)
  unfold lossV
  omega
theorem InTab.gain {c : List (List Int)} (h : InTab 0 99 c) {r : List Pr} (hr : ∀ k, k < r.length → InT c (toP r k)) : ∀ k, k ≤ r.length → -99 * (k : Int) ≤ gainK c r k ∧ gainK c r k ≤ 99 * k
  | 0, _ => by simp [gainK]
  | k + 1, hk => by
    have h1 := InTab.gain h hr k (by omega)
    have h2 := h.loss hr (i := k) (j := (k + 1) % r.length) (by omega) (Nat.mod_lt _ (by omega))
    simp only [gainK]
    omega

@[push_cast] def lossCon : Con := ⟨[.dat (.prod (.sl (.sl .int)) (.sl (.prod .int .int))), .dat .int, .dat .int], fun (x : Exch × Int × Int × Unit) => LossPre x.1 x.2.1 x.2.2.1, fun (x : Exch × Int × Int × Unit) => { res := [.val .int (lossV x.1.1 x.1.2 x.2.1.toNat x.2.2.1.toNat)] }⟩

theorem loss_spec : FnSpec Try.prog 36 lossCon := by
  refine FnSpec.of_tri' (E := know [] [] [] []) (know_ok all_nil all_nil all_nil) Try.func36 rfl rfl (by kernel_rfl) ?_
  intro C x hE hnl hfit hpre
  simp only [Try.ntmps36, Try.results36, maxLen, Nat.reduceSub, Nat.reducePow, Nat.reduceAdd, Int.cast_ofNat_Int, push_cast] at hnl hfit hpre ⊢
  obtain ⟨⟨(c : List (List Int)), (r : List Pr)⟩, (i : Int), (j : Int), _⟩ := x
  dsimp only at hfit hpre ⊢
  obtain ⟨h1, h2, h3, h4⟩ := hpre
  dsimp only at h1 h2 h3 h4
  obtain ⟨i, rfl⟩ := Int.eq_ofNat_of_zero_le h3.1
  obtain ⟨j, rfl⟩ := Int.eq_ofNat_of_zero_le h4.1
  have hi := h2 i (by omega)
  have hj := h2 j (by omega)
  have k1 := h1.cAt hi hi
  have k2 := h1.cAt hi hj
  obtain ⟨p1, p2, p3, p4⟩ := hi
  obtain ⟨q1, q2, q3, q4⟩ := hj
  unfold toP at p1 p2 p3 p4 q1 q2 q3 q4
  have k3 := h1.len (i := (r.getD i (0, 0)).1.toNat) (by omega)
  unfold cAt toP at k1 k2
  refine tri_seqk fun K hK => ?_
  refine tri_region hE rfl ?_
  simp +contextual only [hnl, ↓kN, ↓kP, ↓kG, ↓qN, ↓qP, ↓qG, push_cast, Int.reduceEq, Int.reduceLT, Int.reduceLE, Int.reduceNeg, Nat.reduceLT, Nat.reduceLeDiff, Int.reduceToNat, Int.cast_ofNat_Int, Nat.reduceBEq, Nat.reduceMul, Nat.reduceEqDiff, reduceCtorEq, Nat.reduceAdd]
  refine And.intro ⟨_, _, rfl⟩ ?_
  (refine goK (by assumption) ?_; iterate 4 (try clear hK K))
  refine tri_seqk fun K hK => ?_
  refine tri_inv hE (fun D s => (D 12 = true → D 10 = true) ∧ (D 13 = true → D 11 = true) ∧ s.roots = (fun _ => none) ∧ s.env 3 = .one (.box 3) ∧ s.env 1 = .one (.val .int i) ∧ s.env 2 = .one (.val .int j) ∧ s.boxes 3 = some (.one (.val (.prod (.sl (.sl .int)) (.sl (.prod .int .int))) (c, r))) ∧
    (D 0 = true → s.env 9 = .one (.boxf 3 2 1 1)) ∧ (D 1 = true → s.env 10 = .one (.val (.sl (.prod .int .int)) r)) ∧ (D 2 = true → s.env 11 = .one (.val .int i)) ∧ (D 3 = true → s.env 12 = .one (.padr (.prod .int .int) (r.getD i (0, 0)))) ∧ (D 4 = true → s.env 13 = .one (.val (.prod .int .int) (r.getD i (0, 0)))) ∧
    (D 5 = true → s.env 14 = .one (.boxf 3 2 1 1)) ∧ (D 6 = true → s.env 15 = .one (.val (.sl (.prod .int .int)) r)) ∧ (D 7 = true → s.env 16 = .one (.val .int j)) ∧ (D 8 = true → s.env 17 = .one (.padr (.prod .int .int) (r.getD j (0, 0)))) ∧ (D 9 = true → s.env 18 = .one (.val (.prod .int .int) (r.getD j (0, 0)))) ∧
    (D 10 = true → s.env 7 = .one (.box 7) ∧ s.boxes 7 = some (if D 12 = true then .one (.val (.prod .int .int) (r.getD i (0, 0))) else .rcd [.val .int (0 : Int), .val .int (0 : Int)])) ∧
    (D 11 = true → s.env 8 = .one (.box 8) ∧ s.boxes 8 = some (if D 13 = true then .one (.val (.prod .int .int) (r.getD j (0, 0))) else .rcd [.val .int (0 : Int), .val .int (0 : Int)]))) rfl (by kernel_rfl) ?_ ?_ ?_
  · dsimp only
    simp only [push_cast, Int.reduceEq, Int.reduceLT, Int.reduceLE, Int.reduceNeg, Nat.reduceLT, Nat.reduceLeDiff, Int.reduceToNat, Int.cast_ofNat_Int, Nat.reduceBEq, Nat.reduceMul, Nat.reduceEqDiff, reduceCtorEq, Nat.reduceAdd]
    trivial
  · refine ⟨fun D s h0 hp hI => ?_, fun D s h0 hp hI => ?_, fun D s h0 hp hI => ?_, fun D s h0 hp hI => ?_, fun D s h0 hp hI => ?_, fun D s h0 hp hI => ?_, fun D s h0 hp hI => ?_, fun D s h0 hp hI => ?_, fun D s h0 hp hI => ?_, fun D s h0 hp hI => ?_, fun D s h0 hp hI => ?_, fun D s h0 hp hI => ?_, fun D s h0 hp hI => ?_, fun D s h0 hp hI => ?_, trivial⟩
    all_goals obtain ⟨o1, o2, e1, e2, e3, e4, e5, f0, f1, f2, f3, f4, f5, f6, f7, f8, f9, f10, f11⟩ := hI
    all_goals replace hp := List.all_eq_true.1 hp
    · simp +contextual only [hnl, h0, o1, o2, e1, e2, e3, e4, e5, f0, f1, f2, f3, f4, f5, f6, f7, f8, f9, f10, f11, setD, ↓kN, ↓kP, push_cast, Int.reduceEq, Int.reduceLT, Int.reduceLE, Int.reduceNeg, Nat.reduceLT, Nat.reduceLeDiff, Int.reduceToNat, Int.cast_ofNat_Int, Nat.reduceBEq, Nat.reduceMul, Nat.reduceEqDiff, reduceCtorEq, Nat.reduceAdd]
    · have d0 := hp 0 (by decide)
      simp +contextual only [d0, hnl, h0, o1, o2, e1, e2, e3, e4, e5, f0, f1, f2, f3, f4, f5, f6, f7, f8, f9, f10, f11, setD, ↓kN, ↓kP, push_cast, Int.reduceEq, Int.reduceLT, Int.reduceLE, Int.reduceNeg, Nat.reduceLT, Nat.reduceLeDiff, Int.reduceToNat, Int.cast_ofNat_Int, Nat.reduceBEq, Nat.reduceMul, Nat.reduceEqDiff, reduceCtorEq, Nat.reduceAdd]
    · simp +contextual only [hnl, h0, o1, o2, e1, e2, e3, e4, e5, f0, f1, f2, f3, f4, f5, f6, f7, f8, f9, f10, f11, setD, ↓kN, ↓kP, push_cast, Int.reduceEq, Int.reduceLT, Int.reduceLE, Int.reduceNeg, Nat.reduceLT, Nat.reduceLeDiff, Int.reduceToNat, Int.cast_ofNat_Int, Nat.reduceBEq, Nat.reduceMul, Nat.reduceEqDiff, reduceCtorEq, Nat.reduceAdd]
    · have d1 := hp 1 (by decide)
      have d2 := hp 2 (by decide)
      simp +contextual only [d1, d2, hnl, h0, o1, o2, e1, e2, e3, e4, e5, f0, f1, f2, f3, f4, f5, f6, f7, f8, f9, f10, f11, setD, ↓kN, ↓kP, push_cast, Int.reduceEq, Int.reduceLT, Int.reduceLE, Int.reduceNeg, Nat.reduceLT, Nat.reduceLeDiff, Int.reduceToNat, Int.cast_ofNat_Int, Nat.reduceBEq, Nat.reduceMul, Nat.reduceEqDiff, reduceCtorEq, Nat.reduceAdd]
      exact h3
    · have d3 := hp 3 (by decide)
      simp +contextual only [d3, hnl, h0, o1, o2, e1, e2, e3, e4, e5, f0, f1, f2, f3, f4, f5, f6, f7, f8, f9, f10, f11, setD, ↓kN, ↓kP, push_cast, Int.reduceEq, Int.reduceLT, Int.reduceLE, Int.reduceNeg, Nat.reduceLT, Nat.reduceLeDiff, Int.reduceToNat, Int.cast_ofNat_Int, Nat.reduceBEq, Nat.reduceMul, Nat.reduceEqDiff, reduceCtorEq, Nat.reduceAdd]
    · simp +contextual only [hnl, h0, o1, o2, e1, e2, e3, e4, e5, f0, f1, f2, f3, f4, f5, f6, f7, f8, f9, f10, f11, setD, ↓kN, ↓kP, push_cast, Int.reduceEq, Int.reduceLT, Int.reduceLE, Int.reduceNeg, Nat.reduceLT, Nat.reduceLeDiff, Int.reduceToNat, Int.cast_ofNat_Int, Nat.reduceBEq, Nat.reduceMul, Nat.reduceEqDiff, reduceCtorEq, Nat.reduceAdd]
    · have d5 := hp 5 (by decide)
      simp +contextual only [d5, hnl, h0, o1, o2, e1, e2, e3, e4, e5, f0, f1, f2, f3, f4, f5, f6, f7, f8, f9, f10, f11, setD, ↓kN, ↓kP, push_cast, Int.reduceEq, Int.reduceLT, Int.reduceLE, Int.reduceNeg, Nat.reduceLT, Nat.reduceLeDiff, Int.reduceToNat, Int.cast_ofNat_Int, Nat.reduceBEq, Nat.reduceMul, Nat.reduceEqDiff, reduceCtorEq, Nat.reduceAdd]
    · simp +contextual only [hnl, h0, o1, o2, e1, e2, e3, e4, e5, f0, f1, f2, f3, f4, f5, f6, f7, f8, f9, f10, f11, setD, ↓kN, ↓kP, push_cast, Int.reduceEq, Int.reduceLT, Int.reduceLE, Int.reduceNeg, Nat.reduceLT, Nat.reduceLeDiff, Int.reduceToNat, Int.cast_ofNat_Int, Nat.reduceBEq, Nat.reduceMul, Nat.reduceEqDiff, reduceCtorEq, Nat.reduceAdd]
    · have d6 := hp 6 (by decide)
      have d7 := hp 7 (by decide)
      simp +contextual only [d6, d7, hnl, h0, o1, o2, e1, e2, e3, e4, e5, f0, f1, f2, f3, f4, f5, f6, f7, f8, f9, f10, f11, setD, ↓kN, ↓kP, push_cast, Int.reduceEq, Int.reduceLT, Int.reduceLE, Int.reduceNeg, Nat.reduceLT, Nat.reduceLeDiff, Int.reduceToNat, Int.cast_ofNat_Int, Nat.reduceBEq, Nat.reduceMul, Nat.reduceEqDiff, reduceCtorEq, Nat.reduceAdd]
      exact h4
    · have d8 := hp 8 (by decide)
      simp +contextual only [d8, hnl, h0, o1, o2, e1, e2, e3, e4, e5, f0, f1, f2, f3, f4, f5, f6, f7, f8, f9, f10, f11, setD, ↓kN, ↓kP, push_cast, Int.reduceEq, Int.reduceLT, Int.reduceLE, Int.reduceNeg, Nat.reduceLT, Nat.reduceLeDiff, Int.reduceToNat, Int.cast_ofNat_Int, Nat.reduceBEq, Nat.reduceMul, Nat.reduceEqDiff, reduceCtorEq, Nat.reduceAdd]
    · have n12 : D 12 = false := by
        cases hD : D 12 with
        | false => rfl
        | true => rw [o1 hD] at h0; cases h0
      simp +contextual only [hnl, h0, n12, o1, o2, e1, e2, e3, e4, e5, f0, f1, f2, f3, f4, f5, f6, f7, f8, f9, f10, f11, setD, ↓kN, ↓kP, push_cast, Int.reduceEq, Int.reduceLT, Int.reduceLE, Int.reduceNeg, Nat.reduceLT, Nat.reduceLeDiff, Int.reduceToNat, Int.cast_ofNat_Int, Nat.reduceBEq, Nat.reduceMul, Nat.reduceEqDiff, reduceCtorEq, Nat.reduceAdd]
      intro _
      cases hz : D 13 <;> rfl
    · have n13 : D 13 = false := by
        cases hD : D 13 with
        | false => rfl
        | true => rw [o2 hD] at h0; cases h0
      simp +contextual only [hnl, h0, n13, o1, o2, e1, e2, e3, e4, e5, f0, f1, f2, f3, f4, f5, f6, f7, f8, f9, f10, f11, setD, ↓kN, ↓kP, push_cast, Int.reduceEq, Int.reduceLT, Int.reduceLE, Int.reduceNeg, Nat.reduceLT, Nat.reduceLeDiff, Int.reduceToNat, Int.cast_ofNat_Int, Nat.reduceBEq, Nat.reduceMul, Nat.reduceEqDiff, reduceCtorEq, Nat.reduceAdd]
      intro _
      cases hz : D 12 <;> rfl
    · have d10 := hp 10 (by decide)
      have d4 := hp 4 (by decide)
      simp +contextual only [d10, d4, hnl, h0, o1, o2, e1, e2, e3, e4, e5, f0, f1, f2, f3, f4, f5, f6, f7, f8, f9, f10, f11, setD, ↓kN, ↓kP, push_cast, Int.reduceEq, Int.reduceLT, Int.reduceLE, Int.reduceNeg, Nat.reduceLT, Nat.reduceLeDiff, Int.reduceToNat, Int.cast_ofNat_Int, Nat.reduceBEq, Nat.reduceMul, Nat.reduceEqDiff, reduceCtorEq, Nat.reduceAdd]
    · have d11 := hp 11 (by decide)
      have d9 := hp 9 (by decide)
      simp +contextual only [d11, d9, hnl, h0, o1, o2, e1, e2, e3, e4, e5, f0, f1, f2, f3, f4, f5, f6, f7, f8, f9, f10, f11, setD, ↓kN, ↓kP, push_cast, Int.reduceEq, Int.reduceLT, Int.reduceLE, Int.reduceNeg, Nat.reduceLT, Nat.reduceLeDiff, Int.reduceToNat, Int.cast_ofNat_Int, Nat.reduceBEq, Nat.reduceMul, Nat.reduceEqDiff, reduceCtorEq, Nat.reduceAdd]
  · intro D s hD ⟨_, _, e1, e2, e3, e4, e5, _, _, _, _, _, _, _, _, _, _, e7, e8⟩
    have d10 := e7 (hD 10 (by decide))
    have d11 := e8 (hD 11 (by decide))
    rw [if_pos (hD 12 (by decide))] at d10
    rw [if_pos (hD 13 (by decide))] at d11
    obtain ⟨g1, g2⟩ := d10
    obtain ⟨g3, g4⟩ := d11
    show K s
    (refine goK (by assumption) ?_; iterate 4 (try clear hK K))
    refine tri_weak (t := AS.of [(3, .one (.box 3)), (7, .one (.box 7)), (8, .one (.box 8))] [] [(3, .one (.val (.prod (.sl (.sl .int)) (.sl (.prod .int .int))) (c, r))), (7, .one (.val (.prod .int .int) (r.getD i (0, 0)))), (8, .one (.val (.prod .int .int) (r.getD j (0, 0))))]) ?_ ?_
    · refine weak_of ?_ ?_ ?_ <;> simp only [e1, e2, e3, e4, e5, g1, g2, g3, g4, push_cast, Int.reduceEq, Int.reduceLT, Int.reduceLE, Int.reduceNeg, Nat.reduceLT, Nat.reduceLeDiff, Int.reduceToNat, Int.cast_ofNat_Int, Nat.reduceBEq, Nat.reduceMul, Nat.reduceEqDiff, reduceCtorEq, Nat.reduceAdd]
      all_goals skip
    repeat' (first|(refine goK (by assumption) ?_; iterate 4 (try clear hK K))|(refine tri_seqk fun K hK => ?_)|((first|refine tri_region hE rfl ?_|refine tri_ret ?_|((first|refine tri_drawP hE 1 rfl rfl (by kernel_rfl) ?_|refine tri_drawP hE 2 rfl rfl (by kernel_rfl) ?_|refine tri_drawP hE 3 rfl rfl (by kernel_rfl) ?_|refine tri_drawP hE 4 rfl rfl (by kernel_rfl) ?_); simp only [List.length_cons, List.length_nil, Nat.reduceAdd, Nat.reduceSub, List.take_succ_cons, List.take_zero, List.drop_succ_cons, List.drop_zero])); simp +contextual only [hnl, ↓kN, ↓kP, ↓kG, ↓qN, ↓qP, ↓qG, push_cast, Int.reduceEq, Int.reduceLT, Int.reduceLE, Int.reduceNeg, Nat.reduceLT, Nat.reduceLeDiff, Int.reduceToNat, Int.cast_ofNat_Int, Nat.reduceBEq, Nat.reduceMul, Nat.reduceEqDiff, reduceCtorEq, Nat.reduceAdd])|refine tri_block ?_|((first|refine tri_skip ?_|refine tri_exit ?_); simp only [thenQ, blockQ, if_true, if_false, Nat.reduceEqDiff, reduceCtorEq])|(refine tri_cond (by rfl) (fun hb => ?_) (fun hb => ?_) <;> (try simp only [decide_eq_true_eq, decide_eq_false_iff_not, Bool.not_eq_true', Bool.not_eq_false', reduceCtorEq, Bool.true_eq_false, Bool.false_eq_true] at hb) <;> (try omega))|refine tri_unk (by rfl) ?_ ?_|refine And.intro (by first|omega|(unfold InR; omega)|assumption|decide|exact ⟨_, _, rfl⟩) ?_|(refine ⟨fun hc => ?_, fun hc => ?_⟩)|(intro hc; try omega))
    all_goals first | rfl | skip

end Go.Proofs.Ytpfkipccbgdkjac

namespace Go.Proofs.Ytpfkipccbgdkjac
open Go.RowKit Go.VS
set_option linter.unusedSimpArgs false
set_option linter.unusedVariables false

def errRound (c : List (List Int)) (l r : List Pr) : Int :=
  if ¬ errLinks c l = 0 then errLinks c l else if r.length < 2 ∨ (r.any fun x => !decide (x ∈ l)) = true then 4 else if r.Nodup then 0 else 8
def roundV (c : List (List Int)) (l r : List Pr) : Int := if errRound c l r = 0 then gainK c r r.length else 0
section
variable {c : List (List Int)} {l r : List Pr}
theorem errRound_l (h : ¬ errLinks c l = 0) : errRound c l r = errLinks c l ∧ roundV c l r = 0 := by
  have h1 : errRound c l r = errLinks c l := if_pos h
  exact ⟨h1, if_neg (by rw [h1]; exact h)⟩
theorem errRound_4 (h : errLinks c l = 0) (h2 : r.length < 2 ∨ (r.any fun x => !decide (x ∈ l)) = true) : errRound c l r = 4 ∧ roundV c l r = 0 := by
  have h1 : errRound c l r = 4 := by rw [errRound, if_neg (fun h3 => h3 h), if_pos h2]
  exact ⟨h1, if_neg (by omega)⟩
theorem errRound_8 (h : errLinks c l = 0) (h2 : ¬ (r.length < 2 ∨ (r.any fun x => !decide (x ∈ l)) = true)) (h3 : ¬ r.Nodup) : errRound c l r = 8 ∧ roundV c l r = 0 := by
  have h1 : errRound c l r = 8 := by rw [errRound, if_neg (fun h3 => h3 h), if_neg h2, if_neg h3]
  exact ⟨h1, if_neg (by omega)⟩
theorem errRound_0 (h : errLinks c l = 0) (h2 : ¬ (r.length < 2 ∨ (r.any fun x => !decide (x ∈ l)) = true)) (h3 : r.Nodup) : errRound c l r = 0 ∧ roundV c l r = gainK c r r.length := by
  have h1 : errRound c l r = 0 := by rw [errRound, if_neg (fun h3 => h3 h), if_neg h2, if_pos h3]
  exact ⟨h1, if_pos h1⟩
theorem round_in (h : errLinks c l = 0) (h2 : ¬ (r.length < 2 ∨ (r.any fun x => !decide (x ∈ l)) = true)) : ∀ k, k < r.length → InT c (toP r k) := fun k hk => by
  have h3 : ¬ (r.any fun x => !decide (x ∈ l)) = true := fun h => h2 (.inr h)
  rw [Bool.not_eq_true, List.any_eq_false] at h3
  have h4 := h3 _ (getD_mem (0, 0) hk)
  simp only [Bool.not_eq_true', decide_eq_false_iff_not, Classical.not_not] at h4
  obtain ⟨i, hi, he⟩ := List.getElem_of_mem h4
  have h5 := (errLinks_ok h).2.at' i hi
  unfold toP at h5 ⊢
  rw [List.getD_eq_getElem?_getD, List.getElem?_eq_getElem hi] at h5
  rw [← he]
  exact h5
end
theorem nodup_next {r : List Pr} {k : Nat} (hk : k < r.length) (h : (r.take k).Nodup) (hn : r.getD k (0, 0) ∉ r.take k) : (r.take (k + 1)).Nodup := by
  rw [List.take_succ_eq_append_getElem hk]
  rw [List.getD_eq_getElem?_getD, List.getElem?_eq_getElem hk] at hn
  rw [List.nodup_append]
  refine ⟨h, by simp, fun a ha b hb hab => ?_⟩
  rw [List.mem_singleton] at hb
  subst hb
  subst hab
  exact hn ha
theorem not_nodup {r : List Pr} {k : Nat} (hk : k < r.length) (hn : r.getD k (0, 0) ∈ r.take k) : ¬ r.Nodup := fun h => by
  have h1 : (r.take (k + 1)).Nodup := h.sublist (List.take_sublist _ _)
  rw [List.take_succ_eq_append_getElem hk, List.nodup_append] at h1
  rw [List.getD_eq_getElem?_getD, List.getElem?_eq_getElem hk] at hn
  exact h1.2.2 _ hn _ (List.mem_singleton.2 rfl) rfl

theorem nodup_25 {c : List (List Int)} {r : List Pr} (hc : InTab 0 99 c) (hin : ∀ k, k < r.length → InT c (toP r k)) {k : Nat} (hk : k ≤ r.length) (hn : (r.take k).Nodup) : k ≤ 25 := by
  refine Go.OT.pigeon 25 k (fun i => (toP r i).1.toNat * 5 + (toP r i).2.toNat) (fun i hi => ?_) (fun i j hij hj he => ?_)
  · obtain ⟨h1, h2, h3, h4⟩ := hin i (by omega)
    have h5 := hc.rows
    have h6 := hc.cols
    omega
  · obtain ⟨h1, h2, h3, h4⟩ := hin i (by omega)
    obtain ⟨g1, g2, g3, g4⟩ := hin j (by omega)
    have h5 := hc.rows
    have h6 := hc.cols
    have h7 : toP r i = toP r j := Prod.ext (by omega) (by omega)
    have h8 := List.pairwise_iff_getElem.1 hn i j (by rw [List.length_take]; omega) (by rw [List.length_take]; omega) hij
    apply h8
    rw [List.getElem_take, List.getElem_take]
    unfold toP at h7
    rwa [List.getD_eq_getElem?_getD, List.getD_eq_getElem?_getD, List.getElem?_eq_getElem (by omega), List.getElem?_eq_getElem (by omega)] at h7

@[push_cast] def roundCon : Con := ⟨[.dat (.sl (.sl .int)), .dat (.sl (.prod .int .int)), .dat (.sl (.prod .int .int))], fun _ => True, fun (x : List (List Int) × List Pr × List Pr × Unit) => { res := [.val .int (roundV x.1 x.2.1 x.2.2.1), .val .int (errRound x.1 x.2.1 x.2.2.1)] }⟩

theorem pround_spec : FnSpec Try.prog 17 roundCon := by
  refine FnSpec.of_tri' (E := know [(34, linksCon), (38, containsPCon), (40, hasPCon), (36, lossCon)] [(39, outClo)] [] []) (know_ok (all_cons plinks_spec (all_cons containsP_spec (all_cons hasP_spec (all_cons loss_spec all_nil)))) (all_cons out_spec all_nil) all_nil) Try.func17 rfl rfl (by kernel_rfl) ?_
  intro C x hE hnl hfit hpre
  simp only [Try.ntmps17, Try.results17, maxLen, Nat.reduceSub, Nat.reducePow, Nat.reduceAdd, Int.cast_ofNat_Int, push_cast] at hnl hfit hpre ⊢
  obtain ⟨(c : List (List Int)), (l : List Pr), (r : List Pr), _⟩ := x
  dsimp only at hfit hpre ⊢
  by_cases he : errLinks c l = 0
  · by_cases h2 : r.length < 2 ∨ (r.any fun x => !decide (x ∈ l)) = true
    · obtain ⟨e1, e2⟩ := errRound_4 he h2
      replace hnl := And.intro hnl (And.intro he (And.intro e1 e2))
      by_cases h3 : r.length < 2
      · repeat' (first|(refine goK (by assumption) ?_; iterate 4 (try clear hK K))|(refine tri_seqk fun K hK => ?_)|((first|refine tri_region hE rfl ?_|refine tri_ret ?_|((first|refine tri_drawP hE 1 rfl rfl (by kernel_rfl) ?_|refine tri_drawP hE 2 rfl rfl (by kernel_rfl) ?_|refine tri_drawP hE 3 rfl rfl (by kernel_rfl) ?_|refine tri_drawP hE 4 rfl rfl (by kernel_rfl) ?_); simp only [List.length_cons, List.length_nil, Nat.reduceAdd, Nat.reduceSub, List.take_succ_cons, List.take_zero, List.drop_succ_cons, List.drop_zero])); simp +contextual only [hnl, ↓kN, ↓kP, ↓kG, ↓qN, ↓qP, ↓qG, push_cast, Int.reduceEq, Int.reduceLT, Int.reduceLE, Int.reduceNeg, Nat.reduceLT, Nat.reduceLeDiff, Int.reduceToNat, Int.cast_ofNat_Int, Nat.reduceBEq, Nat.reduceMul, Nat.reduceEqDiff, reduceCtorEq, Nat.reduceAdd])|refine tri_block ?_|((first|refine tri_skip ?_|refine tri_exit ?_); simp only [thenQ, blockQ, if_true, if_false, Nat.reduceEqDiff, reduceCtorEq])|(refine tri_cond (by rfl) (fun hb => ?_) (fun hb => ?_) <;> (try simp only [decide_eq_true_eq, decide_eq_false_iff_not, Bool.not_eq_true', Bool.not_eq_false', reduceCtorEq, Bool.true_eq_false, Bool.false_eq_true] at hb) <;> (try omega))|refine tri_unk (by rfl) ?_ ?_|refine And.intro (by first|omega|(unfold InR; omega)|assumption|decide|exact ⟨_, _, rfl⟩) ?_|(refine ⟨fun hc => ?_, fun hc => ?_⟩)|(intro hc; try omega))
        all_goals skip
      · have h4 := h2.resolve_left h3
        replace hnl := And.intro hnl h4
        repeat' (first|(refine goK (by assumption) ?_; iterate 4 (try clear hK K))|(refine tri_seqk fun K hK => ?_)|((first|refine tri_region hE rfl ?_|refine tri_ret ?_|((first|refine tri_drawP hE 1 rfl rfl (by kernel_rfl) ?_|refine tri_drawP hE 2 rfl rfl (by kernel_rfl) ?_|refine tri_drawP hE 3 rfl rfl (by kernel_rfl) ?_|refine tri_drawP hE 4 rfl rfl (by kernel_rfl) ?_); simp only [List.length_cons, List.length_nil, Nat.reduceAdd, Nat.reduceSub, List.take_succ_cons, List.take_zero, List.drop_succ_cons, List.drop_zero])); simp +contextual only [hnl, ↓kN, ↓kP, ↓kG, ↓qN, ↓qP, ↓qG, push_cast, Int.reduceEq, Int.reduceLT, Int.reduceLE, Int.reduceNeg, Nat.reduceLT, Nat.reduceLeDiff, Int.reduceToNat, Int.cast_ofNat_Int, Nat.reduceBEq, Nat.reduceMul, Nat.reduceEqDiff, reduceCtorEq, Nat.reduceAdd])|refine tri_block ?_|((first|refine tri_skip ?_|refine tri_exit ?_); simp only [thenQ, blockQ, if_true, if_false, Nat.reduceEqDiff, reduceCtorEq])|(refine tri_cond (by rfl) (fun hb => ?_) (fun hb => ?_) <;> (try simp only [decide_eq_true_eq, decide_eq_false_iff_not, Bool.not_eq_true', Bool.not_eq_false', reduceCtorEq, Bool.true_eq_false, Bool.false_eq_true] at hb) <;> (try omega))|refine tri_unk (by rfl) ?_ ?_|refine And.intro (by first|omega|(unfold InR; omega)|assumption|decide|exact ⟨_, _, rfl⟩) ?_|(refine ⟨fun hc => ?_, fun hc => ?_⟩)|(intro hc; try omega))
        all_goals skip
    · have h3 : ¬ r.length < 2 := fun h => h2 (.inl h)
      have h4 : (r.any fun x => !decide (x ∈ l)) = false := by
        rw [Bool.eq_false_iff]; exact fun h => h2 (.inr h)
      have hin := round_in he h2
      have htab := (errLinks_ok he).1
      replace hnl := And.intro hnl (And.intro he h4)
      repeat' (first|(refine goK (by assumption) ?_; iterate 4 (try clear hK K))|(refine tri_seqk fun K hK => ?_)|((first|refine tri_region hE rfl ?_|refine tri_ret ?_|((first|refine tri_drawP hE 1 rfl rfl (by kernel_rfl) ?_|refine tri_drawP hE 2 rfl rfl (by kernel_rfl) ?_|refine tri_drawP hE 3 rfl rfl (by kernel_rfl) ?_|refine tri_drawP hE 4 rfl rfl (by kernel_rfl) ?_); simp only [List.length_cons, List.length_nil, Nat.reduceAdd, Nat.reduceSub, List.take_succ_cons, List.take_zero, List.drop_succ_cons, List.drop_zero])); simp +contextual only [hnl, ↓kN, ↓kP, ↓kG, ↓qN, ↓qP, ↓qG, push_cast, Int.reduceEq, Int.reduceLT, Int.reduceLE, Int.reduceNeg, Nat.reduceLT, Nat.reduceLeDiff, Int.reduceToNat, Int.cast_ofNat_Int, Nat.reduceBEq, Nat.reduceMul, Nat.reduceEqDiff, reduceCtorEq, Nat.reduceAdd])|refine tri_block ?_|((first|refine tri_skip ?_|refine tri_exit ?_); simp only [thenQ, blockQ, if_true, if_false, Nat.reduceEqDiff, reduceCtorEq])|(refine tri_cond (by rfl) (fun hb => ?_) (fun hb => ?_) <;> (try simp only [decide_eq_true_eq, decide_eq_false_iff_not, Bool.not_eq_true', Bool.not_eq_false', reduceCtorEq, Bool.true_eq_false, Bool.false_eq_true] at hb) <;> (try omega))|refine tri_unk (by rfl) ?_ ?_|refine And.intro (by first|omega|(unfold InR; omega)|assumption|decide|exact ⟨_, _, rfl⟩) ?_|(refine ⟨fun hc => ?_, fun hc => ?_⟩)|(intro hc; try omega))
      refine tri_loopI (fun k : Nat => AS.of [(0, .one (.val (.sl (.sl .int)) c)), (2, .one (.val (.sl (.prod .int .int)) r)), (9, .I (gainK c r k)), (10, .one (.box 10)), (30, .one (.val (.sl (.prod .int .int)) r)), (31, .I r.length), (32, .I k)] [] [(10, .one (.val (.prod (.sl (.sl .int)) (.sl (.prod .int .int))) (c, r)))]) (fun k => k ≤ r.length ∧ (r.take k).Nodup) (fun k => r.length - k) 0 ⟨Nat.zero_le _, by simp⟩ ?_ ?_
      · refine weak_of ?_ ?_ ?_ <;> simp only [push_cast, Int.reduceEq, Int.reduceLT, Int.reduceLE, Int.reduceNeg, Nat.reduceLT, Nat.reduceLeDiff, Int.reduceToNat, Int.cast_ofNat_Int, Nat.reduceBEq, Nat.reduceMul, Nat.reduceEqDiff, reduceCtorEq, Nat.reduceAdd]
        all_goals first | rfl | skip
      intro k ⟨hk, hno⟩ K' hL
      have hmod : k < r.length → Int.tmod ((k : Int) + 1) (r.length : Int) = (((k + 1) % r.length : Nat) : Int) := fun _ => by
        rw [Int.tmod_eq_emod_of_nonneg (by omega), ← Int.natCast_one, ← Int.natCast_add, Int.natCast_emod]
      have hg := htab.gain hin k hk
      repeat' (first|(refine goK (by assumption) ?_; iterate 4 (try clear hK K))|(refine tri_seqk fun K hK => ?_)|((first|refine tri_region hE rfl ?_|refine tri_ret ?_|((first|refine tri_drawP hE 1 rfl rfl (by kernel_rfl) ?_|refine tri_drawP hE 2 rfl rfl (by kernel_rfl) ?_|refine tri_drawP hE 3 rfl rfl (by kernel_rfl) ?_|refine tri_drawP hE 4 rfl rfl (by kernel_rfl) ?_); simp only [List.length_cons, List.length_nil, Nat.reduceAdd, Nat.reduceSub, List.take_succ_cons, List.take_zero, List.drop_succ_cons, List.drop_zero])); simp +contextual only [hnl, ↓kN, ↓kP, ↓kG, ↓qN, ↓qP, ↓qG, push_cast, Int.reduceEq, Int.reduceLT, Int.reduceLE, Int.reduceNeg, Nat.reduceLT, Nat.reduceLeDiff, Int.reduceToNat, Int.cast_ofNat_Int, Nat.reduceBEq, Nat.reduceMul, Nat.reduceEqDiff, reduceCtorEq, Nat.reduceAdd])|refine tri_block ?_|((first|refine tri_skip ?_|refine tri_exit ?_); simp only [thenQ, blockQ, if_true, if_false, Nat.reduceEqDiff, reduceCtorEq])|(refine tri_cond (by rfl) (fun hb => ?_) (fun hb => ?_) <;> (try simp only [decide_eq_true_eq, decide_eq_false_iff_not, Bool.not_eq_true', Bool.not_eq_false', reduceCtorEq, Bool.true_eq_false, Bool.false_eq_true] at hb) <;> (try omega))|refine tri_unk (by rfl) ?_ ?_|refine And.intro (by first|omega|(unfold InR; omega)|assumption|decide|exact ⟨_, _, rfl⟩) ?_|(refine ⟨fun hc => ?_, fun hc => ?_⟩)|(intro hc; try omega))
      · obtain ⟨e1, e2⟩ := errRound_8 he h2 (not_nodup (by omega) hb)
        rw [e1, e2]
        exact ⟨rfl, rfl⟩
      · have hkl : k < r.length := by omega
        have hno2 := nodup_next hkl hno hb
        have h25 := nodup_25 htab hin (by omega) hno2
        have hm := Nat.mod_lt (k + 1) (show 0 < r.length by omega)
        have hls := htab.loss hin hkl hm
        rw [hmod hkl]
        refine ⟨⟨htab, hin, ⟨by omega, by dsimp only; omega⟩, ⟨by omega, by dsimp only; omega⟩⟩, by rw [Int.toNat_natCast]; unfold InR; omega, ?_⟩
        repeat' (first|(refine goK (by assumption) ?_; iterate 4 (try clear hK K))|(refine tri_seqk fun K hK => ?_)|((first|refine tri_region hE rfl ?_|refine tri_ret ?_|((first|refine tri_drawP hE 1 rfl rfl (by kernel_rfl) ?_|refine tri_drawP hE 2 rfl rfl (by kernel_rfl) ?_|refine tri_drawP hE 3 rfl rfl (by kernel_rfl) ?_|refine tri_drawP hE 4 rfl rfl (by kernel_rfl) ?_); simp only [List.length_cons, List.length_nil, Nat.reduceAdd, Nat.reduceSub, List.take_succ_cons, List.take_zero, List.drop_succ_cons, List.drop_zero])); simp +contextual only [hnl, ↓kN, ↓kP, ↓kG, ↓qN, ↓qP, ↓qG, push_cast, Int.reduceEq, Int.reduceLT, Int.reduceLE, Int.reduceNeg, Nat.reduceLT, Nat.reduceLeDiff, Int.reduceToNat, Int.cast_ofNat_Int, Nat.reduceBEq, Nat.reduceMul, Nat.reduceEqDiff, reduceCtorEq, Nat.reduceAdd])|refine tri_block ?_|((first|refine tri_skip ?_|refine tri_exit ?_); simp only [thenQ, blockQ, if_true, if_false, Nat.reduceEqDiff, reduceCtorEq])|(refine tri_cond (by rfl) (fun hb => ?_) (fun hb => ?_) <;> (try simp only [decide_eq_true_eq, decide_eq_false_iff_not, Bool.not_eq_true', Bool.not_eq_false', reduceCtorEq, Bool.true_eq_false, Bool.false_eq_true] at hb) <;> (try omega))|refine tri_unk (by rfl) ?_ ?_|refine And.intro (by first|omega|(unfold InR; omega)|assumption|decide|exact ⟨_, _, rfl⟩) ?_|(refine ⟨fun hc => ?_, fun hc => ?_⟩)|(intro hc; try omega))
        refine hL _ (k + 1) ⟨by omega, hno2⟩ (by omega) ?_
        refine weak_of ?_ ?_ ?_ <;> simp only [push_cast, Int.reduceEq, Int.reduceLT, Int.reduceLE, Int.reduceNeg, Nat.reduceLT, Nat.reduceLeDiff, Int.reduceToNat, Int.cast_ofNat_Int, Nat.reduceBEq, Nat.reduceMul, Nat.reduceEqDiff, reduceCtorEq, Nat.reduceAdd]
        all_goals first | rfl | skip
      · obtain rfl : k = r.length := by omega
        rw [List.take_length] at hno
        obtain ⟨e1, e2⟩ := errRound_0 he h2 hno
        rw [e1, e2]
        exact ⟨rfl, rfl⟩
  · obtain ⟨e1, e2⟩ := errRound_l (r := r) he
    replace hnl := And.intro hnl (And.intro e1 e2)
    repeat' (first|(refine goK (by assumption) ?_; iterate 4 (try clear hK K))|(refine tri_seqk fun K hK => ?_)|((first|refine tri_region hE rfl ?_|refine tri_ret ?_|((first|refine tri_drawP hE 1 rfl rfl (by kernel_rfl) ?_|refine tri_drawP hE 2 rfl rfl (by kernel_rfl) ?_|refine tri_drawP hE 3 rfl rfl (by kernel_rfl) ?_|refine tri_drawP hE 4 rfl rfl (by kernel_rfl) ?_); simp only [List.length_cons, List.length_nil, Nat.reduceAdd, Nat.reduceSub, List.take_succ_cons, List.take_zero, List.drop_succ_cons, List.drop_zero])); simp +contextual only [hnl, ↓kN, ↓kP, ↓kG, ↓qN, ↓qP, ↓qG, push_cast, Int.reduceEq, Int.reduceLT, Int.reduceLE, Int.reduceNeg, Nat.reduceLT, Nat.reduceLeDiff, Int.reduceToNat, Int.cast_ofNat_Int, Nat.reduceBEq, Nat.reduceMul, Nat.reduceEqDiff, reduceCtorEq, Nat.reduceAdd])|refine tri_block ?_|((first|refine tri_skip ?_|refine tri_exit ?_); simp only [thenQ, blockQ, if_true, if_false, Nat.reduceEqDiff, reduceCtorEq])|(refine tri_cond (by rfl) (fun hb => ?_) (fun hb => ?_) <;> (try simp only [decide_eq_true_eq, decide_eq_false_iff_not, Bool.not_eq_true', Bool.not_eq_false', reduceCtorEq, Bool.true_eq_false, Bool.false_eq_true] at hb) <;> (try omega))|refine tri_unk (by rfl) ?_ ?_|refine And.intro (by first|omega|(unfold InR; omega)|assumption|decide|exact ⟨_, _, rfl⟩) ?_|(refine ⟨fun hc => ?_, fun hc => ?_⟩)|(intro hc; try omega))

end Go.Proofs.Ytpfkipccbgdkjac
