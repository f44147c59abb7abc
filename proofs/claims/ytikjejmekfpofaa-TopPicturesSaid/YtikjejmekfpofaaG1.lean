/- Lists, masses and plans: which are valid. Conditions: in each contract. -/
import Derived.Test.YtikjejmekfpofaaLc
namespace Go.Proofs.Ytikjejmekfpofaa
open Go.RowKit Go.VS
set_option linter.unusedSimpArgs false
set_option linter.unusedVariables false

def lsum : List Int → Int
  | [] => 0
  | x :: l => x + lsum l

theorem lsum_take : ∀ (l : List Int) (k : Nat), k < l.length → lsum (l.take (k + 1)) = lsum (l.take k) + l.getD k 0
  | [], _, h => by simp at h
  | x :: l, 0, _ => by simp [lsum]
  | x :: l, k + 1, h => by
    have := lsum_take l k (by simpa using h)
    simp only [List.take_succ_cons, lsum, this, List.getD_cons_succ]
    omega

/-- The first place at which p holds. -/
def findI {α : Type} (p : α → Bool) : List α → Int
  | [] => -1
  | x :: l => if p x then 0 else (let r := findI p l; if r < 0 then -1 else r + 1)

theorem findI_ge {α : Type} (p : α → Bool) : ∀ (l : List α), -1 ≤ findI p l
  | [] => by simp [findI]
  | x :: l => by
    have := findI_ge p l
    simp only [findI]
    split
    · omega
    · split <;> omega

theorem findI_neg {α : Type} (p : α → Bool) (l : List α) (h : findI p l < 0) : findI p l = -1 := by
  have := findI_ge p l
  omega

theorem findI_any {α : Type} (p : α → Bool) : ∀ (l : List α), (0 ≤ findI p l ↔ l.any p = true)
  | [] => by simp [findI]
  | x :: l => by
    have h1 := findI_any p l
    have h2 := findI_ge p l
    simp only [findI, List.any_cons]
    cases hx : p x with
    | true => simp
    | false =>
      simp only [Bool.false_eq_true, if_false, Bool.false_or]
      rw [← h1]
      split <;> omega

@[push_cast] def totalCon : Con := ⟨[.dat (.sl .int)], fun (x : List Int × Unit) => ∀ k, InR (lsum (x.1.take k)), fun (x : List Int × Unit) => { res := [.val .int (lsum x.1)] }⟩
@[push_cast] def withinCon : Con := ⟨[.dat .int, .dat .int, .dat .int], fun _ => True, fun (x : Int × Int × Int × Unit) => { res := [.val .bool (decide (x.2.1 ≤ x.1 ∧ x.1 ≤ x.2.2.1))] }⟩
@[push_cast] def manyCon : Con := ⟨[.dat (.sl .int)], fun _ => True, fun (x : List Int × Unit) => { res := [.val .bool (decide (40 < x.1.length))] }⟩
@[push_cast] def negCon (m : Int) : Con := ⟨[.dat .int], fun _ => True, fun (x : Int × Unit) => { res := [.val .bool (decide (x.1 < 0) || decide (m < x.1))] }⟩
@[push_cast] def negClo (m : Int) : Clo := ⟨[], [.int], .bool, fun _ _ => True, fun _ (x : Int × Unit) => decide (x.1 < 0) || decide (m < x.1)⟩
@[push_cast] def indexCon : Con := ⟨[.dat (.sl .int), .fnc [.int] .bool], fun (x : List Int × ((Int × Unit → Prop) × (Int × Unit → Bool)) × Unit) => ∀ y, x.2.1.1 y, fun (x : List Int × ((Int × Unit → Prop) × (Int × Unit → Bool)) × Unit) => { res := [.val .int (findI (fun y => x.2.1.2 (y, ())) x.1)] }⟩
@[push_cast] def containsCon : Con := ⟨[.dat (.sl .int), .fnc [.int] .bool], fun (x : List Int × ((Int × Unit → Prop) × (Int × Unit → Bool)) × Unit) => ∀ y, x.2.1.1 y, fun (x : List Int × ((Int × Unit → Prop) × (Int × Unit → Bool)) × Unit) => { res := [.val .bool (x.1.any fun y => x.2.1.2 (y, ()))] }⟩

theorem ptotal_spec : FnSpec Try.prog 32 totalCon := by
  refine FnSpec.of_tri' (E := know [] [] [] []) (know_ok all_nil all_nil all_nil) Try.func32 rfl rfl (by kernel_rfl) ?_
  intro C x hE hnl hfit hpre
  simp only [Try.ntmps32, Try.results32, maxLen, Nat.reduceSub, Nat.reducePow, Nat.reduceAdd, Int.cast_ofNat_Int, push_cast] at hnl hfit hpre ⊢
  obtain ⟨(l : List Int), _⟩ := x
  dsimp only at hfit hpre ⊢
  repeat' (first|(refine goK (by assumption) ?_; iterate 4 (try clear hK K))|(refine tri_seqk fun K hK => ?_)|((first|refine tri_region hE rfl ?_|refine tri_ret ?_); simp +contextual only [hnl, ↓kN, ↓kP, ↓kG, ↓qN, ↓qP, ↓qG, push_cast, Int.reduceEq, Int.reduceLT, Int.reduceLE, Int.reduceNeg, Nat.reduceLT, Nat.reduceLeDiff, Int.reduceToNat, Int.cast_ofNat_Int, Nat.reduceBEq, Nat.reduceMul, Nat.reduceEqDiff, reduceCtorEq, Nat.reduceAdd])|refine tri_block ?_|((first|refine tri_skip ?_|refine tri_exit ?_); simp only [thenQ, blockQ, if_true, if_false, Nat.reduceEqDiff, reduceCtorEq])|(refine tri_cond (by rfl) (fun hb => ?_) (fun hb => ?_) <;> (try simp only [decide_eq_true_eq, decide_eq_false_iff_not, Bool.not_eq_true', Bool.not_eq_false', reduceCtorEq, Bool.true_eq_false, Bool.false_eq_true] at hb) <;> (try omega))|refine tri_unk (by rfl) ?_ ?_|refine And.intro (by first|omega|(unfold InR; omega)|assumption|decide|exact ⟨_, _, rfl⟩) ?_|(refine ⟨fun hc => ?_, fun hc => ?_⟩)|(intro hc; try omega))
  refine tri_loopI (fun k : Nat => AS.of [(0, .one (.val (.sl .int) l)), (3, .I (lsum (l.take k))), (6, .one (.val (.sl .int) l)), (7, .I l.length), (8, .I k)] [] []) (fun k => k ≤ l.length) (fun k => l.length - k) 0 (Nat.zero_le _) ?_ ?_
  · refine weak_of ?_ ?_ ?_ <;> simp only [push_cast, Int.reduceEq, Int.reduceLT, Int.reduceLE, Int.reduceNeg, Nat.reduceLT, Nat.reduceLeDiff, Int.reduceToNat, Int.cast_ofNat_Int, Nat.reduceBEq, Nat.reduceMul, Nat.reduceEqDiff, reduceCtorEq, Nat.reduceAdd]
    simp [lsum]
  intro k hk K' hL
  repeat' (first|(refine goK (by assumption) ?_; iterate 4 (try clear hK K))|(refine tri_seqk fun K hK => ?_)|((first|refine tri_region hE rfl ?_|refine tri_ret ?_); simp +contextual only [hnl, ↓kN, ↓kP, ↓kG, ↓qN, ↓qP, ↓qG, push_cast, Int.reduceEq, Int.reduceLT, Int.reduceLE, Int.reduceNeg, Nat.reduceLT, Nat.reduceLeDiff, Int.reduceToNat, Int.cast_ofNat_Int, Nat.reduceBEq, Nat.reduceMul, Nat.reduceEqDiff, reduceCtorEq, Nat.reduceAdd])|refine tri_block ?_|((first|refine tri_skip ?_|refine tri_exit ?_); simp only [thenQ, blockQ, if_true, if_false, Nat.reduceEqDiff, reduceCtorEq])|(refine tri_cond (by rfl) (fun hb => ?_) (fun hb => ?_) <;> (try simp only [decide_eq_true_eq, decide_eq_false_iff_not, Bool.not_eq_true', Bool.not_eq_false', reduceCtorEq, Bool.true_eq_false, Bool.false_eq_true] at hb) <;> (try omega))|refine tri_unk (by rfl) ?_ ?_|refine And.intro (by first|omega|(unfold InR; omega)|assumption|decide|exact ⟨_, _, rfl⟩) ?_|(refine ⟨fun hc => ?_, fun hc => ?_⟩)|(intro hc; try omega))
  · refine ⟨by rw [← lsum_take l k (by omega)]; exact hpre _, ?_⟩
    repeat' (first|(refine goK (by assumption) ?_; iterate 4 (try clear hK K))|(refine tri_seqk fun K hK => ?_)|((first|refine tri_region hE rfl ?_|refine tri_ret ?_); simp +contextual only [hnl, ↓kN, ↓kP, ↓kG, ↓qN, ↓qP, ↓qG, push_cast, Int.reduceEq, Int.reduceLT, Int.reduceLE, Int.reduceNeg, Nat.reduceLT, Nat.reduceLeDiff, Int.reduceToNat, Int.cast_ofNat_Int, Nat.reduceBEq, Nat.reduceMul, Nat.reduceEqDiff, reduceCtorEq, Nat.reduceAdd])|refine tri_block ?_|((first|refine tri_skip ?_|refine tri_exit ?_); simp only [thenQ, blockQ, if_true, if_false, Nat.reduceEqDiff, reduceCtorEq])|(refine tri_cond (by rfl) (fun hb => ?_) (fun hb => ?_) <;> (try simp only [decide_eq_true_eq, decide_eq_false_iff_not, Bool.not_eq_true', Bool.not_eq_false', reduceCtorEq, Bool.true_eq_false, Bool.false_eq_true] at hb) <;> (try omega))|refine tri_unk (by rfl) ?_ ?_|refine And.intro (by first|omega|(unfold InR; omega)|assumption|decide|exact ⟨_, _, rfl⟩) ?_|(refine ⟨fun hc => ?_, fun hc => ?_⟩)|(intro hc; try omega))
    refine hL _ (k + 1) (by omega) (by omega) ?_
    refine weak_of ?_ ?_ ?_ <;> simp only [push_cast, Int.reduceEq, Int.reduceLT, Int.reduceLE, Int.reduceNeg, Nat.reduceLT, Nat.reduceLeDiff, Int.reduceToNat, Int.cast_ofNat_Int, Nat.reduceBEq, Nat.reduceMul, Nat.reduceEqDiff, reduceCtorEq, Nat.reduceAdd]
    exact (lsum_take l k (by omega)).symm
  · obtain rfl : k = l.length := by omega
    simp

theorem pwithin_spec : FnSpec Try.prog 16 withinCon := by
  refine FnSpec.of_tri' (E := know [] [] [] []) (know_ok all_nil all_nil all_nil) Try.func16 rfl rfl (by kernel_rfl) ?_
  intro C x hE hnl hfit hpre
  simp only [Try.ntmps16, Try.results16, maxLen, Nat.reduceSub, Nat.reducePow, Nat.reduceAdd, Int.cast_ofNat_Int, push_cast] at hnl hfit hpre ⊢
  obtain ⟨(n : Int), (lo : Int), (hi : Int), _⟩ := x
  dsimp only at hfit hpre ⊢
  repeat' (first|(refine goK (by assumption) ?_; iterate 4 (try clear hK K))|(refine tri_seqk fun K hK => ?_)|((first|refine tri_region hE rfl ?_|refine tri_ret ?_); simp +contextual only [hnl, ↓kN, ↓kP, ↓kG, ↓qN, ↓qP, ↓qG, push_cast, Int.reduceEq, Int.reduceLT, Int.reduceLE, Int.reduceNeg, Nat.reduceLT, Nat.reduceLeDiff, Int.reduceToNat, Int.cast_ofNat_Int, Nat.reduceBEq, Nat.reduceMul, Nat.reduceEqDiff, reduceCtorEq, Nat.reduceAdd])|refine tri_block ?_|((first|refine tri_skip ?_|refine tri_exit ?_); simp only [thenQ, blockQ, if_true, if_false, Nat.reduceEqDiff, reduceCtorEq])|(refine tri_cond (by rfl) (fun hb => ?_) (fun hb => ?_) <;> (try simp only [decide_eq_true_eq, decide_eq_false_iff_not, Bool.not_eq_true', Bool.not_eq_false', reduceCtorEq, Bool.true_eq_false, Bool.false_eq_true] at hb) <;> (try omega))|refine tri_unk (by rfl) ?_ ?_|refine And.intro (by first|omega|(unfold InR; omega)|assumption|decide|exact ⟨_, _, rfl⟩) ?_|(refine ⟨fun hc => ?_, fun hc => ?_⟩)|(intro hc; try omega))
  all_goals first | omega | (simp only [decide_eq_decide]; omega) | (simp only [hc, decide_true, decide_false, Bool.true_or, Bool.false_or]; done) | (simp; done) | (simp; omega) | (simp [*]; done) | (simp [*]; omega)

theorem valid1_fn : FnSpec Try.prog 40 (negCon 30) := by
  refine FnSpec.of_tri' (E := know [] [] [] []) (know_ok all_nil all_nil all_nil) Try.func40 rfl rfl (by kernel_rfl) ?_
  intro C x hE hnl hfit hpre
  simp only [Try.ntmps40, Try.results40, maxLen, Nat.reduceSub, Nat.reducePow, Nat.reduceAdd, Int.cast_ofNat_Int, push_cast] at hnl hfit hpre ⊢
  obtain ⟨(n : Int), _⟩ := x
  dsimp only at hfit hpre ⊢
  repeat' (first|(refine goK (by assumption) ?_; iterate 4 (try clear hK K))|(refine tri_seqk fun K hK => ?_)|((first|refine tri_region hE rfl ?_|refine tri_ret ?_); simp +contextual only [hnl, ↓kN, ↓kP, ↓kG, ↓qN, ↓qP, ↓qG, push_cast, Int.reduceEq, Int.reduceLT, Int.reduceLE, Int.reduceNeg, Nat.reduceLT, Nat.reduceLeDiff, Int.reduceToNat, Int.cast_ofNat_Int, Nat.reduceBEq, Nat.reduceMul, Nat.reduceEqDiff, reduceCtorEq, Nat.reduceAdd])|refine tri_block ?_|((first|refine tri_skip ?_|refine tri_exit ?_); simp only [thenQ, blockQ, if_true, if_false, Nat.reduceEqDiff, reduceCtorEq])|(refine tri_cond (by rfl) (fun hb => ?_) (fun hb => ?_) <;> (try simp only [decide_eq_true_eq, decide_eq_false_iff_not, Bool.not_eq_true', Bool.not_eq_false', reduceCtorEq, Bool.true_eq_false, Bool.false_eq_true] at hb) <;> (try omega))|refine tri_unk (by rfl) ?_ ?_|refine And.intro (by first|omega|(unfold InR; omega)|assumption|decide|exact ⟨_, _, rfl⟩) ?_|(refine ⟨fun hc => ?_, fun hc => ?_⟩)|(intro hc; try omega))
  all_goals first | omega | (simp only [decide_eq_decide]; omega) | (simp only [hc, decide_true, decide_false, Bool.true_or, Bool.false_or]; done) | (simp; done) | (simp; omega) | (simp [*]; done) | (simp [*]; omega)
theorem valid1_spec : CloSpec Try.prog 40 (negClo 30) := CloSpec.of valid1_fn


theorem validP1_fn : FnSpec Try.prog 35 (negCon 150) := by
  refine FnSpec.of_tri' (E := know [] [] [] []) (know_ok all_nil all_nil all_nil) Try.func35 rfl rfl (by kernel_rfl) ?_
  intro C x hE hnl hfit hpre
  simp only [Try.ntmps35, Try.results35, maxLen, Nat.reduceSub, Nat.reducePow, Nat.reduceAdd, Int.cast_ofNat_Int, push_cast] at hnl hfit hpre ⊢
  obtain ⟨(n : Int), _⟩ := x
  dsimp only at hfit hpre ⊢
  repeat' (first|(refine goK (by assumption) ?_; iterate 4 (try clear hK K))|(refine tri_seqk fun K hK => ?_)|((first|refine tri_region hE rfl ?_|refine tri_ret ?_); simp +contextual only [hnl, ↓kN, ↓kP, ↓kG, ↓qN, ↓qP, ↓qG, push_cast, Int.reduceEq, Int.reduceLT, Int.reduceLE, Int.reduceNeg, Nat.reduceLT, Nat.reduceLeDiff, Int.reduceToNat, Int.cast_ofNat_Int, Nat.reduceBEq, Nat.reduceMul, Nat.reduceEqDiff, reduceCtorEq, Nat.reduceAdd])|refine tri_block ?_|((first|refine tri_skip ?_|refine tri_exit ?_); simp only [thenQ, blockQ, if_true, if_false, Nat.reduceEqDiff, reduceCtorEq])|(refine tri_cond (by rfl) (fun hb => ?_) (fun hb => ?_) <;> (try simp only [decide_eq_true_eq, decide_eq_false_iff_not, Bool.not_eq_true', Bool.not_eq_false', reduceCtorEq, Bool.true_eq_false, Bool.false_eq_true] at hb) <;> (try omega))|refine tri_unk (by rfl) ?_ ?_|refine And.intro (by first|omega|(unfold InR; omega)|assumption|decide|exact ⟨_, _, rfl⟩) ?_|(refine ⟨fun hc => ?_, fun hc => ?_⟩)|(intro hc; try omega))
  all_goals first | omega | (simp only [decide_eq_decide]; omega) | (simp only [hc, decide_true, decide_false, Bool.true_or, Bool.false_or]; done) | (simp; done) | (simp; omega) | (simp [*]; done) | (simp [*]; omega)
theorem validP1_spec : CloSpec Try.prog 35 (negClo 150) := CloSpec.of validP1_fn


theorem drop_getD {α : Type} (d : α) {l : List α} {k : Nat} (h : k < l.length) : l.drop k = l.getD k d :: l.drop (k + 1) := by
  rw [← List.getElem_cons_drop (h := h)]
  simp [List.getD_eq_getElem?_getD, h]

theorem index_spec : FnSpec Try.prog 39 indexCon := by
  refine FnSpec.of_tri' (E := know [] [] [] []) (know_ok all_nil all_nil all_nil) Try.func39 rfl rfl (by kernel_rfl) ?_
  intro C x hE hnl hfit hpre
  simp only [Try.ntmps39, Try.results39, maxLen, Nat.reduceSub, Nat.reducePow, Nat.reduceAdd, Int.cast_ofNat_Int, push_cast] at hnl hfit hpre ⊢
  obtain ⟨(l : List Int), ⟨q, p⟩, _⟩ := x
  dsimp only at hfit hpre ⊢
  repeat' (first|(refine goK (by assumption) ?_; iterate 4 (try clear hK K))|(refine tri_seqk fun K hK => ?_)|((first|refine tri_region hE rfl ?_|refine tri_ret ?_); simp +contextual only [hnl, ↓kN, ↓kP, ↓kG, ↓qN, ↓qP, ↓qG, push_cast, Int.reduceEq, Int.reduceLT, Int.reduceLE, Int.reduceNeg, Nat.reduceLT, Nat.reduceLeDiff, Int.reduceToNat, Int.cast_ofNat_Int, Nat.reduceBEq, Nat.reduceMul, Nat.reduceEqDiff, reduceCtorEq, Nat.reduceAdd])|refine tri_block ?_|((first|refine tri_skip ?_|refine tri_exit ?_); simp only [thenQ, blockQ, if_true, if_false, Nat.reduceEqDiff, reduceCtorEq])|(refine tri_cond (by rfl) (fun hb => ?_) (fun hb => ?_) <;> (try simp only [decide_eq_true_eq, decide_eq_false_iff_not, Bool.not_eq_true', Bool.not_eq_false', reduceCtorEq, Bool.true_eq_false, Bool.false_eq_true] at hb) <;> (try omega))|refine tri_unk (by rfl) ?_ ?_|refine And.intro (by first|omega|(unfold InR; omega)|assumption|decide|exact ⟨_, _, rfl⟩) ?_|(refine ⟨fun hc => ?_, fun hc => ?_⟩)|(intro hc; try omega))
  refine tri_loopI (fun k : Nat => AS.of [(0, .one (.val (.sl .int) l)), (1, .one (.fnv [.int] .bool q p)), (6, .one (.val (.sl .int) l)), (7, .I l.length), (8, .I k)] [] []) (fun k => k ≤ l.length ∧ findI (fun y => p (y, ())) l = (if findI (fun y => p (y, ())) (l.drop k) < 0 then -1 else findI (fun y => p (y, ())) (l.drop k) + k)) (fun k => l.length - k) 0 ⟨Nat.zero_le _, ?_⟩ ?_ ?_
  · simp only [List.drop_zero]
    split
    · exact findI_neg _ l (by assumption)
    · simp
  · refine weak_of ?_ ?_ ?_ <;> simp only [push_cast, Int.reduceEq, Int.reduceLT, Int.reduceLE, Int.reduceNeg, Nat.reduceLT, Nat.reduceLeDiff, Int.reduceToNat, Int.cast_ofNat_Int, Nat.reduceBEq, Nat.reduceMul, Nat.reduceEqDiff, reduceCtorEq, Nat.reduceAdd]
  intro k ⟨hk, hf⟩ K' hL
  repeat' (first|(refine goK (by assumption) ?_; iterate 4 (try clear hK K))|(refine tri_seqk fun K hK => ?_)|((first|refine tri_region hE rfl ?_|refine tri_ret ?_); simp +contextual only [hnl, ↓kN, ↓kP, ↓kG, ↓qN, ↓qP, ↓qG, push_cast, Int.reduceEq, Int.reduceLT, Int.reduceLE, Int.reduceNeg, Nat.reduceLT, Nat.reduceLeDiff, Int.reduceToNat, Int.cast_ofNat_Int, Nat.reduceBEq, Nat.reduceMul, Nat.reduceEqDiff, reduceCtorEq, Nat.reduceAdd])|refine tri_block ?_|((first|refine tri_skip ?_|refine tri_exit ?_); simp only [thenQ, blockQ, if_true, if_false, Nat.reduceEqDiff, reduceCtorEq])|(refine tri_cond (by rfl) (fun hb => ?_) (fun hb => ?_) <;> (try simp only [decide_eq_true_eq, decide_eq_false_iff_not, Bool.not_eq_true', Bool.not_eq_false', reduceCtorEq, Bool.true_eq_false, Bool.false_eq_true] at hb) <;> (try omega))|refine tri_unk (by rfl) ?_ ?_|refine And.intro (by first|omega|(unfold InR; omega)|assumption|decide|exact ⟨_, _, rfl⟩) ?_|(refine ⟨fun hc => ?_, fun hc => ?_⟩)|(intro hc; try omega))
  · rw [drop_getD 0 (by omega)] at hf
    refine ⟨hpre _, ?_⟩
    repeat' (first|(refine goK (by assumption) ?_; iterate 4 (try clear hK K))|(refine tri_seqk fun K hK => ?_)|((first|refine tri_region hE rfl ?_|refine tri_ret ?_); simp +contextual only [hnl, ↓kN, ↓kP, ↓kG, ↓qN, ↓qP, ↓qG, push_cast, Int.reduceEq, Int.reduceLT, Int.reduceLE, Int.reduceNeg, Nat.reduceLT, Nat.reduceLeDiff, Int.reduceToNat, Int.cast_ofNat_Int, Nat.reduceBEq, Nat.reduceMul, Nat.reduceEqDiff, reduceCtorEq, Nat.reduceAdd])|refine tri_block ?_|((first|refine tri_skip ?_|refine tri_exit ?_); simp only [thenQ, blockQ, if_true, if_false, Nat.reduceEqDiff, reduceCtorEq])|(refine tri_cond (by rfl) (fun hb => ?_) (fun hb => ?_) <;> (try simp only [decide_eq_true_eq, decide_eq_false_iff_not, Bool.not_eq_true', Bool.not_eq_false', reduceCtorEq, Bool.true_eq_false, Bool.false_eq_true] at hb) <;> (try omega))|refine tri_unk (by rfl) ?_ ?_|refine And.intro (by first|omega|(unfold InR; omega)|assumption|decide|exact ⟨_, _, rfl⟩) ?_|(refine ⟨fun hc => ?_, fun hc => ?_⟩)|(intro hc; try omega))
    · rw [hf]
      simp only [findI, hb, if_true]
      simp
    · refine hL _ (k + 1) ⟨by omega, ?_⟩ (by omega) ?_
      · rw [hf]
        simp only [findI, hb]
        have := findI_ge (fun y => p (y, ())) (l.drop (k + 1))
        simp
        split <;> split <;> omega
      refine weak_of ?_ ?_ ?_ <;> simp only [push_cast, Int.reduceEq, Int.reduceLT, Int.reduceLE, Int.reduceNeg, Nat.reduceLT, Nat.reduceLeDiff, Int.reduceToNat, Int.cast_ofNat_Int, Nat.reduceBEq, Nat.reduceMul, Nat.reduceEqDiff, reduceCtorEq, Nat.reduceAdd]
  · obtain rfl : k = l.length := by omega
    rw [hf]
    simp [findI]

theorem contains_spec : FnSpec Try.prog 27 containsCon := by
  refine FnSpec.of_tri' (E := know [(39, indexCon)] [] [] []) (know_ok (all_cons index_spec all_nil) all_nil all_nil) Try.func27 rfl rfl (by kernel_rfl) ?_
  intro C x hE hnl hfit hpre
  simp only [Try.ntmps27, Try.results27, maxLen, Nat.reduceSub, Nat.reducePow, Nat.reduceAdd, Int.cast_ofNat_Int, push_cast] at hnl hfit hpre ⊢
  obtain ⟨(l : List Int), ⟨q, p⟩, _⟩ := x
  dsimp only at hfit hpre ⊢
  repeat' (first|(refine goK (by assumption) ?_; iterate 4 (try clear hK K))|(refine tri_seqk fun K hK => ?_)|((first|refine tri_region hE rfl ?_|refine tri_ret ?_); simp +contextual only [hnl, ↓kN, ↓kP, ↓kG, ↓qN, ↓qP, ↓qG, push_cast, Int.reduceEq, Int.reduceLT, Int.reduceLE, Int.reduceNeg, Nat.reduceLT, Nat.reduceLeDiff, Int.reduceToNat, Int.cast_ofNat_Int, Nat.reduceBEq, Nat.reduceMul, Nat.reduceEqDiff, reduceCtorEq, Nat.reduceAdd])|refine tri_block ?_|((first|refine tri_skip ?_|refine tri_exit ?_); simp only [thenQ, blockQ, if_true, if_false, Nat.reduceEqDiff, reduceCtorEq])|(refine tri_cond (by rfl) (fun hb => ?_) (fun hb => ?_) <;> (try simp only [decide_eq_true_eq, decide_eq_false_iff_not, Bool.not_eq_true', Bool.not_eq_false', reduceCtorEq, Bool.true_eq_false, Bool.false_eq_true] at hb) <;> (try omega))|refine tri_unk (by rfl) ?_ ?_|refine And.intro (by first|omega|(unfold InR; omega)|assumption|decide|exact ⟨_, _, rfl⟩) ?_|(refine ⟨fun hc => ?_, fun hc => ?_⟩)|(intro hc; try omega))
  have := findI_any (fun y => p (y, ())) l
  by_cases h : 0 ≤ findI (fun y => p (y, ())) l
  · rw [decide_eq_true h, this.1 h]
  · rw [decide_eq_false h]
    symm
    rw [Bool.eq_false_iff]
    exact fun h2 => h (this.2 h2)
end Go.Proofs.Ytikjejmekfpofaa

namespace Go.Proofs.Ytikjejmekfpofaa
open Go.RowKit Go.VS
set_option linter.unusedSimpArgs false
set_option linter.unusedVariables false

def okMass (l : List Int) : Bool := decide (1 ≤ l.length ∧ l.length ≤ 5) && l.all fun x => decide (0 ≤ x ∧ x ≤ 30)
def errMass (l : List Int) : Int := if okMass l then 0 else 1
def errPair (a b : List Int) : Int := if okMass a then if okMass b then if lsum a = lsum b then 0 else 5 else 1 else 1

theorem lsum_bound (m : Int) (hm : 0 ≤ m) : ∀ (l : List Int), (∀ x ∈ l, 0 ≤ x ∧ x ≤ m) → 0 ≤ lsum l ∧ lsum l ≤ m * l.length
  | [], _ => by simp [lsum]
  | x :: l, h => by
    have h1 := lsum_bound m hm l (fun y hy => h y (by simp [hy]))
    have h2 := h x (by simp)
    simp only [lsum, List.length_cons, Int.natCast_add, Int.natCast_one, Int.mul_add, Int.mul_one]
    omega

theorem okMass_len {l : List Int} (h : okMass l = true) : 1 ≤ l.length ∧ l.length ≤ 5 := by
  simp only [okMass, Bool.and_eq_true, decide_eq_true_eq] at h
  exact h.1
theorem okMass_mem {l : List Int} (h : okMass l = true) : ∀ x ∈ l, 0 ≤ x ∧ x ≤ 30 := by
  simp only [okMass, Bool.and_eq_true, List.all_eq_true, decide_eq_true_eq] at h
  exact h.2
theorem okMass_sum {l : List Int} (h : okMass l = true) (k : Nat) : InR (lsum (l.take k)) := by
  have h1 := lsum_bound 30 (by omega) (l.take k) (fun x hx => okMass_mem h x (List.mem_of_mem_take hx))
  have h2 := okMass_len h
  have h3 : (l.take k).length ≤ 5 := by rw [List.length_take]; omega
  unfold InR
  omega

theorem errMass_ok {l : List Int} (h : errMass l = 0) : okMass l = true := by
  unfold errMass at h
  split at h
  · assumption
  · simp at h
theorem errMass_no {l : List Int} (h : ¬ errMass l = 0) : okMass l = false := by
  unfold errMass at h
  split at h
  · simp at h
  · rename_i h2; simpa using h2

@[push_cast] def validCon : Con := ⟨[.dat (.sl .int)], fun _ => True, fun (x : List Int × Unit) => { res := [.val .int (errMass x.1)] }⟩
@[push_cast] def totCon : Con := ⟨[.dat (.sl .int)], fun _ => True, fun (x : List Int × Unit) => { res := [.val .int (if okMass x.1 then lsum x.1 else 0), .val .int (errMass x.1)] }⟩
@[push_cast] def pairCon : Con := ⟨[.dat (.sl .int), .dat (.sl .int)], fun _ => True, fun (x : List Int × List Int × Unit) => { res := [.val .int (errPair x.1 x.2.1)] }⟩

theorem errMass_len {l : List Int} (h : (l.length : Int) < 1 ∨ 5 < (l.length : Int)) : errMass l = 1 := by
  have : okMass l = false := by
    simp only [okMass, Bool.and_eq_false_iff, decide_eq_false_iff_not]
    left; omega
  simp [errMass, this]
theorem errMass_any {l : List Int} (h : (l.any fun y => decide (y < 0) || decide (30 < y)) = true) : errMass l = 1 := by
  have : okMass l = false := by
    rw [Bool.eq_false_iff]
    intro hk
    simp only [List.any_eq_true, Bool.or_eq_true, decide_eq_true_eq] at h
    obtain ⟨x, h1, h2⟩ := h
    have := okMass_mem hk x h1
    omega
  simp [errMass, this]
theorem errMass_bad {l : List Int} {x : Int} (h1 : x ∈ l) (h2 : ¬ (0 ≤ x ∧ x ≤ 30)) : errMass l = 1 :=
  errMass_any (by simp only [List.any_eq_true, Bool.or_eq_true, decide_eq_true_eq]; exact ⟨x, h1, by omega⟩)
theorem errMass_all {l : List Int} (h1 : ¬ (l.length : Int) < 1) (h2 : ¬ 5 < (l.length : Int)) (h : ∀ x ∈ l, 0 ≤ x ∧ x ≤ 30) : errMass l = 0 := by
  have : okMass l = true := by
    simp only [okMass, Bool.and_eq_true, decide_eq_true_eq, List.all_eq_true]
    exact ⟨by omega, h⟩
  simp [errMass, this]

theorem valid_spec : FnSpec Try.prog 31 validCon := by
  refine FnSpec.of_tri' (E := know [(27, containsCon)] [(40, (negClo 30))] [] []) (know_ok (all_cons contains_spec all_nil) (all_cons valid1_spec all_nil) all_nil) Try.func31 rfl rfl (by kernel_rfl) ?_
  intro C x hE hnl hfit hpre
  simp only [Try.ntmps31, Try.results31, maxLen, Nat.reduceSub, Nat.reducePow, Nat.reduceAdd, Int.cast_ofNat_Int, push_cast] at hnl hfit hpre ⊢
  obtain ⟨(l : List Int), _⟩ := x
  dsimp only at hfit hpre ⊢
  repeat' (first|(refine goK (by assumption) ?_; iterate 4 (try clear hK K))|(refine tri_seqk fun K hK => ?_)|((first|refine tri_region hE rfl ?_|refine tri_ret ?_); simp +contextual only [hnl, ↓kN, ↓kP, ↓kG, ↓qN, ↓qP, ↓qG, push_cast, Int.reduceEq, Int.reduceLT, Int.reduceLE, Int.reduceNeg, Nat.reduceLT, Nat.reduceLeDiff, Int.reduceToNat, Int.cast_ofNat_Int, Nat.reduceBEq, Nat.reduceMul, Nat.reduceEqDiff, reduceCtorEq, Nat.reduceAdd])|refine tri_block ?_|((first|refine tri_skip ?_|refine tri_exit ?_); simp only [thenQ, blockQ, if_true, if_false, Nat.reduceEqDiff, reduceCtorEq])|(refine tri_cond (by rfl) (fun hb => ?_) (fun hb => ?_) <;> (try simp only [decide_eq_true_eq, decide_eq_false_iff_not, Bool.not_eq_true', Bool.not_eq_false', reduceCtorEq, Bool.true_eq_false, Bool.false_eq_true] at hb) <;> (try omega))|refine tri_unk (by rfl) ?_ ?_|refine And.intro (by first|omega|(unfold InR; omega)|assumption|decide|exact ⟨_, _, rfl⟩) ?_|(refine ⟨fun hc => ?_, fun hc => ?_⟩)|(intro hc; try omega))
  · exact (errMass_any hb).symm
  · refine (errMass_all (by assumption) (by assumption) fun x hx => ?_).symm
    rw [List.any_eq_false] at hb
    have h3 : ¬ ((x : Int) < 0 ∨ (30 : Int) < x) := by simpa using hb x hx
    omega
  · exact (errMass_len (.inr (by assumption))).symm
  · exact (errMass_len (.inl (by assumption))).symm

theorem getD_mem {α : Type} {l : List α} {k : Nat} (d : α) (h : k < l.length) : l.getD k d ∈ l := by
  rw [List.getD_eq_getElem?_getD, List.getElem?_eq_getElem h]
  exact List.getElem_mem h

theorem errPair_1 {a b : List Int} (h : ¬ errMass a = 0) : errMass a = errPair a b := by
  simp [errPair, errMass, errMass_no h]
theorem errPair_2 {a b : List Int} (h : errMass a = 0) (h2 : ¬ errMass b = 0) : errMass b = errPair a b := by
  simp [errPair, errMass, errMass_no h2, errMass_ok h]
theorem errPair_5 {a b : List Int} (h : errMass a = 0) (h2 : errMass b = 0) (h3 : ¬ lsum a = lsum b) : errPair a b = 5 := by
  simp [errPair, errMass_ok h2, errMass_ok h, h3]
theorem errPair_0 {a b : List Int} (h : errMass a = 0) (h2 : errMass b = 0) (h3 : lsum a = lsum b) : errPair a b = 0 := by
  simp [errPair, errMass_ok h2, errMass_ok h, h3]

end Go.Proofs.Ytikjejmekfpofaa

namespace Go.Proofs.Ytikjejmekfpofaa
open Go.RowKit Go.VS
set_option linter.unusedSimpArgs false
set_option linter.unusedVariables false

@[push_cast] def sameCon : Con := ⟨[.dat (.sl .int), .dat (.sl .int)], fun _ => True, fun (x : List Int × List Int × Unit) => { res := [.val .bool (decide (x.1 = x.2.1))] }⟩
@[push_cast] def sameTCon : Con := ⟨[.dat (.sl (.sl .int)), .dat (.sl (.sl .int))], fun _ => True, fun (x : List (List Int) × List (List Int) × Unit) => { res := [.val .bool (decide (x.1 = x.2.1))] }⟩

theorem eq_of_getD {α : Type} (d : α) {a b : List α} (hl : a.length = b.length) (h : ∀ j, j < a.length → a.getD j d = b.getD j d) : a = b := by
  apply List.ext_getElem hl
  intro j h1 h2
  have := h j h1
  simpa [List.getD_eq_getElem?_getD, h1, h2] using this

theorem ne_of_getD {α : Type} (d : α) {a b : List α} {k : Nat} (h : ¬ a.getD k d = b.getD k d) : ¬ a = b := fun e => h (by rw [e])

theorem qsame_spec : FnSpec Try.prog 5 sameCon := by
  refine FnSpec.of_tri' (E := know [] [] [] []) (know_ok all_nil all_nil all_nil) Try.func5 rfl rfl (by kernel_rfl) ?_
  intro C x hE hnl hfit hpre
  simp only [Try.ntmps5, Try.results5, maxLen, Nat.reduceSub, Nat.reducePow, Nat.reduceAdd, Int.cast_ofNat_Int, push_cast] at hnl hfit hpre ⊢
  obtain ⟨(a : List Int), (b : List Int), _⟩ := x
  dsimp only at hfit hpre ⊢
  repeat' (first|(refine goK (by assumption) ?_; iterate 4 (try clear hK K))|(refine tri_seqk fun K hK => ?_)|((first|refine tri_region hE rfl ?_|refine tri_ret ?_|((first|refine tri_drawP hE 1 rfl rfl (by kernel_rfl) ?_|refine tri_drawP hE 2 rfl rfl (by kernel_rfl) ?_|refine tri_drawP hE 3 rfl rfl (by kernel_rfl) ?_|refine tri_drawP hE 4 rfl rfl (by kernel_rfl) ?_); simp only [List.length_cons, List.length_nil, Nat.reduceAdd, Nat.reduceSub, List.take_succ_cons, List.take_zero, List.drop_succ_cons, List.drop_zero])); simp +contextual only [hnl, ↓kN, ↓kP, ↓kG, ↓qN, ↓qP, ↓qG, push_cast, Int.reduceEq, Int.reduceLT, Int.reduceLE, Int.reduceNeg, Nat.reduceLT, Nat.reduceLeDiff, Int.reduceToNat, Int.cast_ofNat_Int, Nat.reduceBEq, Nat.reduceMul, Nat.reduceEqDiff, reduceCtorEq, Nat.reduceAdd])|refine tri_block ?_|((first|refine tri_skip ?_|refine tri_exit ?_); simp only [thenQ, blockQ, if_true, if_false, Nat.reduceEqDiff, reduceCtorEq])|(refine tri_cond (by rfl) (fun hb => ?_) (fun hb => ?_) <;> (try simp only [decide_eq_true_eq, decide_eq_false_iff_not, Bool.not_eq_true', Bool.not_eq_false', reduceCtorEq, Bool.true_eq_false, Bool.false_eq_true] at hb) <;> (try omega))|refine tri_unk (by rfl) ?_ ?_|refine And.intro (by first|omega|(unfold InR; omega)|assumption|decide|exact ⟨_, _, rfl⟩) ?_|(refine ⟨fun hc => ?_, fun hc => ?_⟩)|(intro hc; try omega))
  · exact (decide_eq_false fun e => hb (by rw [e])).symm
  have hlen := hb; clear hb
  refine tri_loopI (fun k : Nat => AS.of [(0, .one (.val (.sl .int) a)), (1, .one (.val (.sl .int) b)), (5, .I k)] [] []) (fun k => k ≤ a.length ∧ ∀ j, j < k → a.getD j 0 = b.getD j 0) (fun k => a.length - k) 0 ⟨Nat.zero_le _, by omega⟩ ?_ ?_
  · refine weak_of ?_ ?_ ?_ <;> simp only [push_cast, Int.reduceEq, Int.reduceLT, Int.reduceLE, Int.reduceNeg, Nat.reduceLT, Nat.reduceLeDiff, Int.reduceToNat, Int.cast_ofNat_Int, Nat.reduceBEq, Nat.reduceMul, Nat.reduceEqDiff, reduceCtorEq, Nat.reduceAdd]
  intro k ⟨hk, hj⟩ K' hL
  repeat' (first|(refine goK (by assumption) ?_; iterate 4 (try clear hK K))|(refine tri_seqk fun K hK => ?_)|((first|refine tri_region hE rfl ?_|refine tri_ret ?_|((first|refine tri_drawP hE 1 rfl rfl (by kernel_rfl) ?_|refine tri_drawP hE 2 rfl rfl (by kernel_rfl) ?_|refine tri_drawP hE 3 rfl rfl (by kernel_rfl) ?_|refine tri_drawP hE 4 rfl rfl (by kernel_rfl) ?_); simp only [List.length_cons, List.length_nil, Nat.reduceAdd, Nat.reduceSub, List.take_succ_cons, List.take_zero, List.drop_succ_cons, List.drop_zero])); simp +contextual only [hnl, ↓kN, ↓kP, ↓kG, ↓qN, ↓qP, ↓qG, push_cast, Int.reduceEq, Int.reduceLT, Int.reduceLE, Int.reduceNeg, Nat.reduceLT, Nat.reduceLeDiff, Int.reduceToNat, Int.cast_ofNat_Int, Nat.reduceBEq, Nat.reduceMul, Nat.reduceEqDiff, reduceCtorEq, Nat.reduceAdd])|refine tri_block ?_|((first|refine tri_skip ?_|refine tri_exit ?_); simp only [thenQ, blockQ, if_true, if_false, Nat.reduceEqDiff, reduceCtorEq])|(refine tri_cond (by rfl) (fun hb => ?_) (fun hb => ?_) <;> (try simp only [decide_eq_true_eq, decide_eq_false_iff_not, Bool.not_eq_true', Bool.not_eq_false', reduceCtorEq, Bool.true_eq_false, Bool.false_eq_true] at hb) <;> (try omega))|refine tri_unk (by rfl) ?_ ?_|refine And.intro (by first|omega|(unfold InR; omega)|assumption|decide|exact ⟨_, _, rfl⟩) ?_|(refine ⟨fun hc => ?_, fun hc => ?_⟩)|(intro hc; try omega))
  · exact (decide_eq_false (ne_of_getD 0 hb)).symm
  · refine hL _ (k + 1) ⟨by omega, fun j hj' => ?_⟩ (by omega) ?_
    · rcases Nat.lt_or_ge j k with h3 | h3
      · exact hj j h3
      · have : j = k := by omega
        subst this
        exact hb
    refine weak_of ?_ ?_ ?_ <;> simp only [push_cast, Int.reduceEq, Int.reduceLT, Int.reduceLE, Int.reduceNeg, Nat.reduceLT, Nat.reduceLeDiff, Int.reduceToNat, Int.cast_ofNat_Int, Nat.reduceBEq, Nat.reduceMul, Nat.reduceEqDiff, reduceCtorEq, Nat.reduceAdd]
  · exact (decide_eq_true (eq_of_getD 0 (by omega) fun j hj' => hj j (by omega))).symm

end Go.Proofs.Ytikjejmekfpofaa

namespace Go.Proofs.Ytikjejmekfpofaa
open Go.RowKit Go.VS
set_option linter.unusedSimpArgs false
set_option linter.unusedVariables false

/-- How many columns a table has. -/
def wid (p : List (List Int)) : Nat := (p.getD 0 []).length
def okRow (m : Nat) (r : List Int) : Bool := decide (r.length = m) && r.all fun x => decide (0 ≤ x ∧ x ≤ 150)
def okPlan (p : List (List Int)) : Bool := decide (1 ≤ p.length ∧ p.length ≤ 5) && (decide (1 ≤ wid p ∧ wid p ≤ 5) && p.all (okRow (wid p)))
def errPlan (p : List (List Int)) : Int := if okPlan p then 0 else 1

structure InPlan (p : List (List Int)) : Prop where
  rows : 1 ≤ p.length ∧ p.length ≤ 5
  cols : 1 ≤ wid p ∧ wid p ≤ 5
  len : ∀ r ∈ p, r.length = wid p
  mem : ∀ r ∈ p, ∀ x ∈ r, 0 ≤ x ∧ x ≤ 150

theorem okPlan_iff {p : List (List Int)} : okPlan p = true ↔ InPlan p := by
  simp only [okPlan, okRow, Bool.and_eq_true, decide_eq_true_eq, List.all_eq_true]
  constructor
  · rintro ⟨h1, h2, h3⟩
    exact ⟨h1, h2, fun r hr => (h3 r hr).1, fun r hr => (h3 r hr).2⟩
  · rintro ⟨h1, h2, h3, h4⟩
    exact ⟨h1, h2, fun r hr => ⟨h3 r hr, h4 r hr⟩⟩

theorem errPlan_0 {p : List (List Int)} (h : InPlan p) : errPlan p = 0 := by
  unfold errPlan
  rw [if_pos (okPlan_iff.2 h)]
theorem errPlan_1 {p : List (List Int)} (h : ¬ InPlan p) : errPlan p = 1 := by
  unfold errPlan
  rw [if_neg (fun e => h (okPlan_iff.1 e))]
theorem errPlan_in {p : List (List Int)} (h : errPlan p = 0) : InPlan p := by
  unfold errPlan at h
  split at h
  · exact okPlan_iff.1 (by assumption)
  · simp at h
theorem errPlan_01 (p : List (List Int)) : errPlan p = 0 ∨ errPlan p = 1 := by
  unfold errPlan
  split <;> simp

theorem InPlan.row {p : List (List Int)} (h : InPlan p) {i : Nat} (hi : i < p.length) : (p.getD i []).length = wid p := h.len _ (getD_mem [] hi)
theorem InPlan.at {p : List (List Int)} (h : InPlan p) {i j : Nat} (hi : i < p.length) (hj : j < wid p) : 0 ≤ (p.getD i []).getD j 0 ∧ (p.getD i []).getD j 0 ≤ 150 :=
  h.mem _ (getD_mem [] hi) _ (getD_mem 0 (by rw [h.row hi]; exact hj))

theorem inPlan_of {p : List (List Int)} (h1 : 1 ≤ p.length ∧ p.length ≤ 5) (h2 : 1 ≤ wid p ∧ wid p ≤ 5) (h : ∀ i, i < p.length → (p.getD i []).length = wid p ∧ ∀ j, j < wid p → 0 ≤ (p.getD i []).getD j 0 ∧ (p.getD i []).getD j 0 ≤ 150) : InPlan p := by
  refine ⟨h1, h2, fun r hr => ?_, fun r hr x hx => ?_⟩
  · obtain ⟨i, hi, rfl⟩ := List.getElem_of_mem hr
    have := (h i hi).1
    rwa [List.getD_eq_getElem?_getD, List.getElem?_eq_getElem hi] at this
  · obtain ⟨i, hi, rfl⟩ := List.getElem_of_mem hr
    obtain ⟨j, hj, rfl⟩ := List.getElem_of_mem hx
    have e : p.getD i [] = p[i] := by rw [List.getD_eq_getElem?_getD, List.getElem?_eq_getElem hi]; rfl
    have := h i hi
    rw [e] at this
    have h3 := this.2 j (by rw [← this.1]; exact hj)
    rwa [List.getD_eq_getElem?_getD, List.getElem?_eq_getElem hj] at h3

@[push_cast] def planCon : Con := ⟨[.dat (.sl (.sl .int))], fun _ => True, fun (x : List (List Int) × Unit) => { res := [.val .int (errPlan x.1)] }⟩
def longV (p : List (List Int)) : Bool := p.any (fun r => decide (40 < r.length)) || decide (40 < p.length)
@[push_cast] def longCon : Con := ⟨[.dat (.sl (.sl .int))], fun _ => True, fun (x : List (List Int) × Unit) => { res := [.val .bool (decide (longV x.1 = true))] }⟩

theorem any_take_succ {α : Type} (d : α) (f : α → Bool) {l : List α} {k : Nat} (h : k < l.length) : (l.take (k + 1)).any f = ((l.take k).any f || f (l.getD k d)) := by
  rw [List.take_add_one, List.any_append]
  simp [List.getD_eq_getElem?_getD, h]

theorem plan_spec : FnSpec Try.prog 22 planCon := by
  refine FnSpec.of_tri' (E := know [(27, containsCon)] [(35, (negClo 150))] [] []) (know_ok (all_cons contains_spec all_nil) (all_cons validP1_spec all_nil) all_nil) Try.func22 rfl rfl (by kernel_rfl) ?_
  intro C x hE hnl hfit hpre
  simp only [Try.ntmps22, Try.results22, maxLen, Nat.reduceSub, Nat.reducePow, Nat.reduceAdd, Int.cast_ofNat_Int, push_cast] at hnl hfit hpre ⊢
  obtain ⟨(p : List (List Int)), _⟩ := x
  dsimp only at hfit hpre ⊢
  repeat' (first|(refine goK (by assumption) ?_; iterate 4 (try clear hK K))|(refine tri_seqk fun K hK => ?_)|((first|refine tri_region hE rfl ?_|refine tri_ret ?_); simp +contextual only [hnl, ↓kN, ↓kP, ↓kG, ↓qN, ↓qP, ↓qG, push_cast, Int.reduceEq, Int.reduceLT, Int.reduceLE, Int.reduceNeg, Nat.reduceLT, Nat.reduceLeDiff, Int.reduceToNat, Int.cast_ofNat_Int, Nat.reduceBEq, Nat.reduceMul, Nat.reduceEqDiff, reduceCtorEq, Nat.reduceAdd])|refine tri_block ?_|((first|refine tri_skip ?_|refine tri_exit ?_); simp only [thenQ, blockQ, if_true, if_false, Nat.reduceEqDiff, reduceCtorEq])|(refine tri_cond (by rfl) (fun hb => ?_) (fun hb => ?_) <;> (try simp only [decide_eq_true_eq, decide_eq_false_iff_not, Bool.not_eq_true', Bool.not_eq_false', reduceCtorEq, Bool.true_eq_false, Bool.false_eq_true] at hb) <;> (try omega))|refine tri_unk (by rfl) ?_ ?_|refine And.intro (by first|omega|(unfold InR; omega)|assumption|decide|exact ⟨_, _, rfl⟩) ?_|(refine ⟨fun hc => ?_, fun hc => ?_⟩)|(intro hc; try omega))
  · exact (errPlan_1 fun h => by have := h.rows; omega).symm
  · refine tri_loopI (fun k : Nat => AS.of [(0, .one (.val (.sl (.sl .int)) p)), (13, .one (.val (.sl (.sl .int)) p)), (14, .I p.length), (15, .I k)] [] []) (fun k => k ≤ p.length ∧ ∀ j, j < k → (1 ≤ (p.getD j []).length ∧ (p.getD j []).length ≤ 5) ∧ (p.getD j []).length = wid p ∧ ∀ x ∈ p.getD j [], 0 ≤ x ∧ x ≤ 150) (fun k => p.length - k) 0 ⟨Nat.zero_le _, by omega⟩ ?_ ?_
    · refine weak_of ?_ ?_ ?_ <;> simp only [push_cast, Int.reduceEq, Int.reduceLT, Int.reduceLE, Int.reduceNeg, Nat.reduceLT, Nat.reduceLeDiff, Int.reduceToNat, Int.cast_ofNat_Int, Nat.reduceBEq, Nat.reduceMul, Nat.reduceEqDiff, reduceCtorEq, Nat.reduceAdd]
    intro k ⟨hk, hj⟩ K' hL
    have bad : ∀ r ∈ p, ¬ (r.length = wid p ∧ ∀ x ∈ r, 0 ≤ x ∧ x ≤ 150) → errPlan p = 1 := fun r hr hn => errPlan_1 fun h => hn ⟨h.len r hr, h.mem r hr⟩
    have hmem : k < p.length → p.getD k [] ∈ p := getD_mem []
    repeat' (first|(refine goK (by assumption) ?_; iterate 4 (try clear hK K))|(refine tri_seqk fun K hK => ?_)|((first|refine tri_region hE rfl ?_|refine tri_ret ?_); simp +contextual only [hnl, ↓kN, ↓kP, ↓kG, ↓qN, ↓qP, ↓qG, push_cast, Int.reduceEq, Int.reduceLT, Int.reduceLE, Int.reduceNeg, Nat.reduceLT, Nat.reduceLeDiff, Int.reduceToNat, Int.cast_ofNat_Int, Nat.reduceBEq, Nat.reduceMul, Nat.reduceEqDiff, reduceCtorEq, Nat.reduceAdd])|refine tri_block ?_|((first|refine tri_skip ?_|refine tri_exit ?_); simp only [thenQ, blockQ, if_true, if_false, Nat.reduceEqDiff, reduceCtorEq])|(refine tri_cond (by rfl) (fun hb => ?_) (fun hb => ?_) <;> (try simp only [decide_eq_true_eq, decide_eq_false_iff_not, Bool.not_eq_true', Bool.not_eq_false', reduceCtorEq, Bool.true_eq_false, Bool.false_eq_true] at hb) <;> (try omega))|refine tri_unk (by rfl) ?_ ?_|refine And.intro (by first|omega|(unfold InR; omega)|assumption|decide|exact ⟨_, _, rfl⟩) ?_|(refine ⟨fun hc => ?_, fun hc => ?_⟩)|(intro hc; try omega))
    · refine (bad _ (hmem (by omega)) fun hn => ?_).symm
      rw [List.any_eq_true] at hb
      obtain ⟨x, h1, h2⟩ := hb
      have h3 := hn.2 x h1
      simp only [Bool.or_eq_true, decide_eq_true_eq] at h2
      omega
    · refine hL _ (k + 1) ⟨by omega, fun j hj' => ?_⟩ (by omega) ?_
      · rcases Nat.lt_or_ge j k with h3 | h3
        · exact hj j h3
        · obtain rfl : j = k := by omega
          refine ⟨by omega, by unfold wid; omega, fun x hx => ?_⟩
          rw [List.any_eq_false] at hb
          have := hb x hx
          simp only [Bool.or_eq_true, decide_eq_true_eq] at this
          omega
      refine weak_of ?_ ?_ ?_ <;> simp only [push_cast, Int.reduceEq, Int.reduceLT, Int.reduceLE, Int.reduceNeg, Nat.reduceLT, Nat.reduceLeDiff, Int.reduceToNat, Int.cast_ofNat_Int, Nat.reduceBEq, Nat.reduceMul, Nat.reduceEqDiff, reduceCtorEq, Nat.reduceAdd]
    · exact (bad _ (hmem (by omega)) fun hn => by have := hn.1; unfold wid at this; omega).symm
    · exact (errPlan_1 fun h => by have h1 := h.len _ (hmem (by omega)); have h2 := h.cols; omega).symm
    · exact (errPlan_1 fun h => by have h1 := h.len _ (hmem (by omega)); have h2 := h.cols; omega).symm
    · refine (errPlan_0 (inPlan_of (by omega) ?_ fun i hi => ?_)).symm
      · have h1 := hj 0 (by omega)
        unfold wid
        omega
      · have h1 := hj i (by omega)
        exact ⟨h1.2.1, fun j hj' => h1.2.2 _ (getD_mem 0 (by rw [h1.2.1]; exact hj'))⟩
  · exact (errPlan_1 fun h => by have := h.rows; omega).symm

end Go.Proofs.Ytikjejmekfpofaa
