/- The ends of a plan, and which tables are plans between two masses. Conditions: in each contract. -/
import Derived.Test.YtloipnalmkdldaaFk
import Derived.Test.YtloipnalmkdldaaFd
namespace Go.Proofs.Ytloipnalmkdldaa
open Go.RowKit Go.VS
set_option linter.unusedSimpArgs false
set_option linter.unusedVariables false

theorem flip_sums (p : List (List Int)) : rowsP (flipP p) = colsP p := by
  unfold rowsP flipP colsP
  simp only [tbl, List.map_map]
  refine List.map_congr_left fun c _ => ?_
  simp only [Function.comp_def, colP]
  rw [map_tbl p []]
  rfl

theorem InPlan.sumsR {p : List (List Int)} (h : InPlan p) : p.length ≤ 5 ∧ ∀ r ∈ p, ∀ k, InR (lsum (r.take k)) := by
  refine ⟨h.rows.2, fun r hr k => ?_⟩
  obtain ⟨i, hi, rfl⟩ := List.getElem_of_mem hr
  have := h.sumR hi k
  rw [List.getD_eq_getElem?_getD, List.getElem?_eq_getElem hi] at this
  simp only [Option.getD_some] at this
  unfold InR
  omega

theorem flip_len (p : List (List Int)) : (flipP p).length = wid p := tbl_len _ _
theorem flip_row (p : List (List Int)) {c : Nat} (hc : c < wid p) : (flipP p).getD c [] = tbl p.length fun i => (p.getD i []).getD c 0 := tbl_get _ _ hc

theorem InPlan.flip {p : List (List Int)} (h : InPlan p) : InPlan (flipP p) := by
  have hw : wid (flipP p) = p.length := by
    unfold wid
    rw [flip_row p (by have := h.cols; omega), tbl_len]
  refine inPlan_of (by rw [flip_len]; exact h.cols) (by rw [hw]; exact h.rows) fun c hc => ?_
  rw [flip_len] at hc
  rw [hw, flip_row p hc]
  refine ⟨tbl_len _ _, fun i hi => ?_⟩
  rw [tbl_get _ _ hi]
  exact h.at hi hc

@[push_cast] def endsC2 : Con := ⟨[.dat (.sl (.sl .int))], fun _ => True, fun (x : List (List Int) × Unit) =>
  { res := [.own (.flat 3 .int (if errPlan x.1 = 0 then rowsP x.1 else [])), .own (.flat 3 .int (if errPlan x.1 = 0 then colsP x.1 else [])), .val .int (errPlan x.1)] }⟩

theorem Ends_spec : FnSpec Try.prog 21 endsC2 := by
  refine FnSpec.of_tri' (E := know [(22, planCon), (37, endsCon)] [] [] []) (know_ok (all_cons plan_spec (all_cons ends_spec all_nil)) all_nil all_nil) Try.func21 rfl rfl (by kernel_rfl) ?_
  intro C x hE hnl hfit hpre
  simp only [Try.ntmps21, Try.results21, maxLen, Nat.reduceSub, Nat.reducePow, Nat.reduceAdd, Int.cast_ofNat_Int, push_cast] at hnl hfit hpre ⊢
  obtain ⟨(p : List (List Int)), _⟩ := x
  dsimp only at hfit hpre ⊢
  rcases errPlan_01 p with he | he
  · have hin := errPlan_in he
    replace hnl := And.intro hnl he
    repeat' (first|(refine goK (by assumption) ?_; iterate 4 (try clear hK K))|(refine tri_seqk fun K hK => ?_)|((first|refine tri_region hE rfl ?_|refine tri_ret ?_|((first|refine tri_drawP hE 1 rfl rfl (by kernel_rfl) ?_|refine tri_drawP hE 2 rfl rfl (by kernel_rfl) ?_|refine tri_drawP hE 3 rfl rfl (by kernel_rfl) ?_|refine tri_drawP hE 4 rfl rfl (by kernel_rfl) ?_); simp only [List.length_cons, List.length_nil, Nat.reduceAdd, Nat.reduceSub, List.take_succ_cons, List.take_zero, List.drop_succ_cons, List.drop_zero])); simp +contextual only [hnl, ↓kN, ↓kP, ↓kG, ↓qN, ↓qP, ↓qG, push_cast, Int.reduceEq, Int.reduceLT, Int.reduceLE, Int.reduceNeg, Nat.reduceLT, Nat.reduceLeDiff, Int.reduceToNat, Int.cast_ofNat_Int, Nat.reduceBEq, Nat.reduceMul, Nat.reduceEqDiff, reduceCtorEq, Nat.reduceAdd])|refine tri_block ?_|((first|refine tri_skip ?_|refine tri_exit ?_); simp only [thenQ, blockQ, if_true, if_false, Nat.reduceEqDiff, reduceCtorEq])|(refine tri_cond (by rfl) (fun hb => ?_) (fun hb => ?_) <;> (try simp only [decide_eq_true_eq, decide_eq_false_iff_not, Bool.not_eq_true', Bool.not_eq_false', reduceCtorEq, Bool.true_eq_false, Bool.false_eq_true] at hb) <;> (try omega))|refine tri_unk (by rfl) ?_ ?_|refine And.intro (by first|omega|(unfold InR; omega)|assumption|decide|exact ⟨_, _, rfl⟩) ?_|(refine ⟨fun hc => ?_, fun hc => ?_⟩)|(intro hc; try omega))
  · replace hnl := And.intro hnl he
    repeat' (first|(refine goK (by assumption) ?_; iterate 4 (try clear hK K))|(refine tri_seqk fun K hK => ?_)|((first|refine tri_region hE rfl ?_|refine tri_ret ?_|((first|refine tri_drawP hE 1 rfl rfl (by kernel_rfl) ?_|refine tri_drawP hE 2 rfl rfl (by kernel_rfl) ?_|refine tri_drawP hE 3 rfl rfl (by kernel_rfl) ?_|refine tri_drawP hE 4 rfl rfl (by kernel_rfl) ?_); simp only [List.length_cons, List.length_nil, Nat.reduceAdd, Nat.reduceSub, List.take_succ_cons, List.take_zero, List.drop_succ_cons, List.drop_zero])); simp +contextual only [hnl, ↓kN, ↓kP, ↓kG, ↓qN, ↓qP, ↓qG, push_cast, Int.reduceEq, Int.reduceLT, Int.reduceLE, Int.reduceNeg, Nat.reduceLT, Nat.reduceLeDiff, Int.reduceToNat, Int.cast_ofNat_Int, Nat.reduceBEq, Nat.reduceMul, Nat.reduceEqDiff, reduceCtorEq, Nat.reduceAdd])|refine tri_block ?_|((first|refine tri_skip ?_|refine tri_exit ?_); simp only [thenQ, blockQ, if_true, if_false, Nat.reduceEqDiff, reduceCtorEq])|(refine tri_cond (by rfl) (fun hb => ?_) (fun hb => ?_) <;> (try simp only [decide_eq_true_eq, decide_eq_false_iff_not, Bool.not_eq_true', Bool.not_eq_false', reduceCtorEq, Bool.true_eq_false, Bool.false_eq_true] at hb) <;> (try omega))|refine tri_unk (by rfl) ?_ ?_|refine And.intro (by first|omega|(unfold InR; omega)|assumption|decide|exact ⟨_, _, rfl⟩) ?_|(refine ⟨fun hc => ?_, fun hc => ?_⟩)|(intro hc; try omega))

def errCheck (a b : List Int) (p : List (List Int)) : Int := if okMass a then if okMass b then if okPlan p then if lsum a = lsum b then if rowsP p = a ∧ colsP p = b then 0 else 7 else 5 else 1 else 1 else 1
@[push_cast] def checkCon : Con := ⟨[.dat (.sl .int), .dat (.sl .int), .dat (.sl (.sl .int))], fun _ => True, fun (x : List Int × List Int × List (List Int) × Unit) => { res := [.val .int (errCheck x.1 x.2.1 x.2.2.1)] }⟩

section
variable {a b : List Int} {p : List (List Int)}
theorem errPlan_no (h : ¬ errPlan p = 0) : okPlan p = false := by
  unfold errPlan at h
  split at h
  · simp at h
  · rename_i h2; simpa using h2
theorem check_a (h : ¬ errMass a = 0) : errMass a = errCheck a b p := by simp [errCheck, errMass, errMass_no h]
theorem check_b (h1 : errMass a = 0) (h : ¬ errMass b = 0) : errMass b = errCheck a b p := by simp [errCheck, errMass, errMass_ok h1, errMass_no h]
theorem check_p (h1 : errMass a = 0) (h2 : errMass b = 0) (h : ¬ errPlan p = 0) : errPlan p = errCheck a b p := by simp [errCheck, errPlan, errMass_ok h1, errMass_ok h2, errPlan_no h]
theorem check_f (h1 : errMass a = 0) (h2 : errMass b = 0) (h3 : errPlan p = 0) (h : ¬ lsum a = lsum b) : errCheck a b p = 5 := by simp [errCheck, errMass_ok h1, errMass_ok h2, okPlan_iff.2 (errPlan_in h3), h]
theorem check_s (h1 : errMass a = 0) (h2 : errMass b = 0) (h3 : errPlan p = 0) (h : lsum a = lsum b) : errCheck a b p = if rowsP p = a ∧ colsP p = b then 0 else 7 := by
  simp [errCheck, errMass_ok h1, errMass_ok h2, okPlan_iff.2 (errPlan_in h3), h]
theorem pair_f (h1 : errMass a = 0) (h2 : errMass b = 0) (h : ¬ errPair a b = 0) : errPair a b = 5 ∧ ¬ lsum a = lsum b := by
  unfold errPair at h ⊢
  rw [errMass_ok h1, errMass_ok h2] at h ⊢
  simp only [if_true] at h ⊢
  split at h
  · exact absurd rfl h
  · rename_i h3
    exact ⟨if_neg h3, h3⟩
end

theorem check_spec : FnSpec Try.prog 17 checkCon := by
  refine FnSpec.of_tri' (E := know [(26, validCon), (22, planCon), (31, pairCon), (37, endsCon), (38, equalCon)] [] [] []) (know_ok (all_cons valid_spec (all_cons plan_spec (all_cons pair_spec (all_cons ends_spec (all_cons equal_spec all_nil))))) all_nil all_nil) Try.func17 rfl rfl (by kernel_rfl) ?_
  intro C x hE hnl hfit hpre
  simp only [Try.ntmps17, Try.results17, maxLen, Nat.reduceSub, Nat.reducePow, Nat.reduceAdd, Int.cast_ofNat_Int, push_cast] at hnl hfit hpre ⊢
  obtain ⟨(a : List Int), (b : List Int), (p : List (List Int)), _⟩ := x
  dsimp only at hfit hpre ⊢
  have hin : errPlan p = 0 → InPlan p := errPlan_in
  repeat' (first|(refine goK (by assumption) ?_; iterate 4 (try clear hK K))|(refine tri_seqk fun K hK => ?_)|((first|refine tri_region hE rfl ?_|refine tri_ret ?_); simp +contextual only [hnl, ↓kN, ↓kP, ↓kG, ↓qN, ↓qP, ↓qG, push_cast, Int.reduceEq, Int.reduceLT, Int.reduceLE, Int.reduceNeg, Nat.reduceLT, Nat.reduceLeDiff, Int.reduceToNat, Int.cast_ofNat_Int, Nat.reduceBEq, Nat.reduceMul, Nat.reduceEqDiff, reduceCtorEq, Nat.reduceAdd])|refine tri_block ?_|((first|refine tri_skip ?_|refine tri_exit ?_); simp only [thenQ, blockQ, if_true, if_false, Nat.reduceEqDiff, reduceCtorEq])|(refine tri_cond (by rfl) (fun hb => ?_) (fun hb => ?_) <;> (try simp only [decide_eq_true_eq, decide_eq_false_iff_not, Bool.not_eq_true', Bool.not_eq_false', reduceCtorEq, Bool.true_eq_false, Bool.false_eq_true] at hb) <;> (try omega))|refine tri_unk (by rfl) ?_ ?_|refine And.intro (by first|omega|(unfold InR; omega)|assumption|decide|exact ⟨_, _, rfl⟩) ?_|(refine ⟨fun hc => ?_, fun hc => ?_⟩)|(intro hc; try omega))
  · exact check_a hb
  · exact check_b (by assumption) hb
  · exact check_p (by assumption) (by assumption) hb
  · obtain ⟨h1, h2⟩ := pair_f (by assumption) (by assumption) hb
    rw [h1, check_f (by assumption) (by assumption) (by assumption) h2]
  · refine ⟨hin (by assumption), ?_⟩
    repeat' (first|(refine goK (by assumption) ?_; iterate 4 (try clear hK K))|(refine tri_seqk fun K hK => ?_)|((first|refine tri_region hE rfl ?_|refine tri_ret ?_); simp +contextual only [hnl, ↓kN, ↓kP, ↓kG, ↓qN, ↓qP, ↓qG, push_cast, Int.reduceEq, Int.reduceLT, Int.reduceLE, Int.reduceNeg, Nat.reduceLT, Nat.reduceLeDiff, Int.reduceToNat, Int.cast_ofNat_Int, Nat.reduceBEq, Nat.reduceMul, Nat.reduceEqDiff, reduceCtorEq, Nat.reduceAdd])|refine tri_block ?_|((first|refine tri_skip ?_|refine tri_exit ?_); simp only [thenQ, blockQ, if_true, if_false, Nat.reduceEqDiff, reduceCtorEq])|(refine tri_cond (by rfl) (fun hb => ?_) (fun hb => ?_) <;> (try simp only [decide_eq_true_eq, decide_eq_false_iff_not, Bool.not_eq_true', Bool.not_eq_false', reduceCtorEq, Bool.true_eq_false, Bool.false_eq_true] at hb) <;> (try omega))|refine tri_unk (by rfl) ?_ ?_|refine And.intro (by first|omega|(unfold InR; omega)|assumption|decide|exact ⟨_, _, rfl⟩) ?_|(refine ⟨fun hc => ?_, fun hc => ?_⟩)|(intro hc; try omega))
    · rw [check_s (by assumption) (by assumption) (by assumption) (errPair_ok (by assumption)).2.2, if_neg (fun h => hb h.2)]
    · rw [check_s (by assumption) (by assumption) (by assumption) (errPair_ok (by assumption)).2.2, if_pos ⟨hc, hb⟩]
    · rw [check_s (by assumption) (by assumption) (by assumption) (errPair_ok (by assumption)).2.2, if_neg (fun h => hc h.1)]

end Go.Proofs.Ytloipnalmkdldaa
