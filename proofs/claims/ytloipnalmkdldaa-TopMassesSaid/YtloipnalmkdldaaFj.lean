/- Which plans are valid. Conditions: in each contract. -/
import Derived.Test.YtloipnalmkdldaaFe
namespace Go.Proofs.Ytloipnalmkdldaa
open Go.RowKit Go.VS
set_option linter.unusedSimpArgs false
set_option linter.unusedVariables false

/-- How many columns a table has. -/
def wid (p : List (List Int)) : Nat := (p.getD 0 []).length
def okRow (m : Nat) (r : List Int) : Bool := decide (r.length = m) && r.all fun x => decide (0 ≤ x ∧ x ≤ 150)
def okPlan (p : List (List Int)) : Bool := decide (1 ≤ p.length ∧ p.length ≤ 5) && (decide (1 ≤ wid p ∧ wid p ≤ 5) && p.all (okRow (wid p)))
def errPlan (p : List (List Int)) : Int := if okPlan p then 0 else 1

structure InPlan (p : List (List Int)) : Prop where
  rows : 1 ≤ p.length ∧ p.length ≤ 5
  cols : 1 ≤ wid p ∧ wid p ≤ 5
  len : ∀ r ∈ p, r.length = wid p
  mem : ∀ r ∈ p, ∀ x ∈ r, 0 ≤ x ∧ x ≤ 150

theorem okPlan_iff {p : List (List Int)} : okPlan p = true ↔ InPlan p := by
  simp only [okPlan, okRow, Bool.and_eq_true, decide_eq_true_eq, List.all_eq_true]
  constructor
  · rintro ⟨h1, h2, h3⟩
    exact ⟨h1, h2, fun r hr => (h3 r hr).1, fun r hr => (h3 r hr).2⟩
  · rintro ⟨h1, h2, h3, h4⟩
    exact ⟨h1, h2, fun r hr => ⟨h3 r hr, h4 r hr⟩⟩

theorem errPlan_0 {p : List (List Int)} (h : InPlan p) : errPlan p = 0 := by
  unfold errPlan
  rw [if_pos (okPlan_iff.2 h)]
theorem errPlan_1 {p : List (List Int)} (h : ¬ InPlan p) : errPlan p = 1 := by
  unfold errPlan
  rw [if_neg (fun e => h (okPlan_iff.1 e))]
theorem errPlan_in {p : List (List Int)} (h : errPlan p = 0) : InPlan p := by
  unfold errPlan at h
  split at h
  · exact okPlan_iff.1 (by assumption)
  · simp at h
theorem errPlan_01 (p : List (List Int)) : errPlan p = 0 ∨ errPlan p = 1 := by
  unfold errPlan
  split <;> simp

theorem InPlan.row {p : List (List Int)} (h : InPlan p) {i : Nat} (hi : i < p.length) : (p.getD i []).length = wid p := h.len _ (getD_mem [] hi)
theorem InPlan.at {p : List (List Int)} (h : InPlan p) {i j : Nat} (hi : i < p.length) (hj : j < wid p) : 0 ≤ (p.getD i []).getD j 0 ∧ (p.getD i []).getD j 0 ≤ 150 :=
  h.mem _ (getD_mem [] hi) _ (getD_mem 0 (by rw [h.row hi]; exact hj))

theorem inPlan_of {p : List (List Int)} (h1 : 1 ≤ p.length ∧ p.length ≤ 5) (h2 : 1 ≤ wid p ∧ wid p ≤ 5) (h : ∀ i, i < p.length → (p.getD i []).length = wid p ∧ ∀ j, j < wid p → 0 ≤ (p.getD i []).getD j 0 ∧ (p.getD i []).getD j 0 ≤ 150) : InPlan p := by
  refine ⟨h1, h2, fun r hr => ?_, fun r hr x hx => ?_⟩
  · obtain ⟨i, hi, rfl⟩ := List.getElem_of_mem hr
    have := (h i hi).1
    rwa [List.getD_eq_getElem?_getD, List.getElem?_eq_getElem hi] at this
  · obtain ⟨i, hi, rfl⟩ := List.getElem_of_mem hr
    obtain ⟨j, hj, rfl⟩ := List.getElem_of_mem hx
    have e : p.getD i [] = p[i] := by rw [List.getD_eq_getElem?_getD, List.getElem?_eq_getElem hi]; rfl
    have := h i hi
    rw [e] at this
    have h3 := this.2 j (by rw [← this.1]; exact hj)
    rwa [List.getD_eq_getElem?_getD, List.getElem?_eq_getElem hj] at h3

@[push_cast] def planCon : Con := ⟨[.dat (.sl (.sl .int))], fun _ => True, fun (x : List (List Int) × Unit) => { res := [.val .int (errPlan x.1)] }⟩
def longV (p : List (List Int)) : Bool := p.any (fun r => decide (40 < r.length)) || decide (40 < p.length)
@[push_cast] def longCon : Con := ⟨[.dat (.sl (.sl .int))], fun _ => True, fun (x : List (List Int) × Unit) => { res := [.val .bool (decide (longV x.1 = true))] }⟩

theorem any_take_succ {α : Type} (d : α) (f : α → Bool) {l : List α} {k : Nat} (h : k < l.length) : (l.take (k + 1)).any f = ((l.take k).any f || f (l.getD k d)) := by
  rw [List.take_add_one, List.any_append]
  simp [List.getD_eq_getElem?_getD, h]

theorem long_spec : FnSpec Try.prog 7 longCon := by
  refine FnSpec.of_tri' (E := know [] [] [] []) (know_ok all_nil all_nil all_nil) Try.func7 rfl rfl (by kernel_rfl) ?_
  intro C x hE hnl hfit hpre
  simp only [Try.ntmps7, Try.results7, maxLen, Nat.reduceSub, Nat.reducePow, Nat.reduceAdd, Int.cast_ofNat_Int, push_cast] at hnl hfit hpre ⊢
  obtain ⟨(p : List (List Int)), _⟩ := x
  dsimp only at hfit hpre ⊢
  repeat' (first|(refine goK (by assumption) ?_; iterate 4 (try clear hK K))|(refine tri_seqk fun K hK => ?_)|((first|refine tri_region hE rfl ?_|refine tri_ret ?_|((first|refine tri_drawP hE 1 rfl rfl (by kernel_rfl) ?_|refine tri_drawP hE 2 rfl rfl (by kernel_rfl) ?_|refine tri_drawP hE 3 rfl rfl (by kernel_rfl) ?_|refine tri_drawP hE 4 rfl rfl (by kernel_rfl) ?_); simp only [List.length_cons, List.length_nil, Nat.reduceAdd, Nat.reduceSub, List.take_succ_cons, List.take_zero, List.drop_succ_cons, List.drop_zero])); simp +contextual only [hnl, ↓kN, ↓kP, ↓kG, ↓qN, ↓qP, ↓qG, push_cast, Int.reduceEq, Int.reduceLT, Int.reduceLE, Int.reduceNeg, Nat.reduceLT, Nat.reduceLeDiff, Int.reduceToNat, Int.cast_ofNat_Int, Nat.reduceBEq, Nat.reduceMul, Nat.reduceEqDiff, reduceCtorEq, Nat.reduceAdd])|refine tri_block ?_|((first|refine tri_skip ?_|refine tri_exit ?_); simp only [thenQ, blockQ, if_true, if_false, Nat.reduceEqDiff, reduceCtorEq])|(refine tri_cond (by rfl) (fun hb => ?_) (fun hb => ?_) <;> (try simp only [decide_eq_true_eq, decide_eq_false_iff_not, Bool.not_eq_true', Bool.not_eq_false', reduceCtorEq, Bool.true_eq_false, Bool.false_eq_true] at hb) <;> (try omega))|refine tri_unk (by rfl) ?_ ?_|refine And.intro (by first|omega|(unfold InR; omega)|assumption|decide|exact ⟨_, _, rfl⟩) ?_|(refine ⟨fun hc => ?_, fun hc => ?_⟩)|(intro hc; try omega))
  refine tri_loopI (fun k : Nat => AS.of [(0, .one (.val (.sl (.sl .int)) p)), (3, .I k)] [] []) (fun k => k ≤ p.length ∧ (p.take k).any (fun r => decide (40 < r.length)) = false) (fun k => p.length - k) 0 ⟨Nat.zero_le _, by simp⟩ ?_ ?_
  · refine weak_of ?_ ?_ ?_ <;> simp only [push_cast, Int.reduceEq, Int.reduceLT, Int.reduceLE, Int.reduceNeg, Nat.reduceLT, Nat.reduceLeDiff, Int.reduceToNat, Int.cast_ofNat_Int, Nat.reduceBEq, Nat.reduceMul, Nat.reduceEqDiff, reduceCtorEq, Nat.reduceAdd]
  intro k ⟨hk, hj⟩ K' hL
  repeat' (first|(refine goK (by assumption) ?_; iterate 4 (try clear hK K))|(refine tri_seqk fun K hK => ?_)|((first|refine tri_region hE rfl ?_|refine tri_ret ?_|((first|refine tri_drawP hE 1 rfl rfl (by kernel_rfl) ?_|refine tri_drawP hE 2 rfl rfl (by kernel_rfl) ?_|refine tri_drawP hE 3 rfl rfl (by kernel_rfl) ?_|refine tri_drawP hE 4 rfl rfl (by kernel_rfl) ?_); simp only [List.length_cons, List.length_nil, Nat.reduceAdd, Nat.reduceSub, List.take_succ_cons, List.take_zero, List.drop_succ_cons, List.drop_zero])); simp +contextual only [hnl, ↓kN, ↓kP, ↓kG, ↓qN, ↓qP, ↓qG, push_cast, Int.reduceEq, Int.reduceLT, Int.reduceLE, Int.reduceNeg, Nat.reduceLT, Nat.reduceLeDiff, Int.reduceToNat, Int.cast_ofNat_Int, Nat.reduceBEq, Nat.reduceMul, Nat.reduceEqDiff, reduceCtorEq, Nat.reduceAdd])|refine tri_block ?_|((first|refine tri_skip ?_|refine tri_exit ?_); simp only [thenQ, blockQ, if_true, if_false, Nat.reduceEqDiff, reduceCtorEq])|(refine tri_cond (by rfl) (fun hb => ?_) (fun hb => ?_) <;> (try simp only [decide_eq_true_eq, decide_eq_false_iff_not, Bool.not_eq_true', Bool.not_eq_false', reduceCtorEq, Bool.true_eq_false, Bool.false_eq_true] at hb) <;> (try omega))|refine tri_unk (by rfl) ?_ ?_|refine And.intro (by first|omega|(unfold InR; omega)|assumption|decide|exact ⟨_, _, rfl⟩) ?_|(refine ⟨fun hc => ?_, fun hc => ?_⟩)|(intro hc; try omega))
  · have hk' : k < p.length := by omega
    have h1 := any_take_succ [] (fun r => decide (40 < r.length)) hk'
    have h2 : (p.any fun r => decide (40 < r.length)) = true := by
      rw [← List.take_append_drop (k + 1) p, List.any_append, h1, hj, decide_eq_true (by omega)]
      simp
    exact (decide_eq_true (by simp [longV, h2])).symm
  · have hk' : k < p.length := by omega
    refine hL _ (k + 1) ⟨by omega, ?_⟩ (by omega) ?_
    · rw [any_take_succ [] _ hk', hj, decide_eq_false (by omega)]
      rfl
    refine weak_of ?_ ?_ ?_ <;> simp only [push_cast, Int.reduceEq, Int.reduceLT, Int.reduceLE, Int.reduceNeg, Nat.reduceLT, Nat.reduceLeDiff, Int.reduceToNat, Int.cast_ofNat_Int, Nat.reduceBEq, Nat.reduceMul, Nat.reduceEqDiff, reduceCtorEq, Nat.reduceAdd]
  · rw [List.take_of_length_le (by omega)] at hj
    simp only [longV, hj, Bool.false_or, decide_eq_true_eq, decide_eq_decide]
    omega

theorem plan_spec : FnSpec Try.prog 22 planCon := by
  refine FnSpec.of_tri' (E := know [(42, containsCon)] [(43, (negClo 150))] [] []) (know_ok (all_cons contains_spec all_nil) (all_cons validP1_spec all_nil) all_nil) Try.func22 rfl rfl (by kernel_rfl) ?_
  intro C x hE hnl hfit hpre
  simp only [Try.ntmps22, Try.results22, maxLen, Nat.reduceSub, Nat.reducePow, Nat.reduceAdd, Int.cast_ofNat_Int, push_cast] at hnl hfit hpre ⊢
  obtain ⟨(p : List (List Int)), _⟩ := x
  dsimp only at hfit hpre ⊢
  repeat' (first|(refine goK (by assumption) ?_; iterate 4 (try clear hK K))|(refine tri_seqk fun K hK => ?_)|((first|refine tri_region hE rfl ?_|refine tri_ret ?_); simp +contextual only [hnl, ↓kN, ↓kP, ↓kG, ↓qN, ↓qP, ↓qG, push_cast, Int.reduceEq, Int.reduceLT, Int.reduceLE, Int.reduceNeg, Nat.reduceLT, Nat.reduceLeDiff, Int.reduceToNat, Int.cast_ofNat_Int, Nat.reduceBEq, Nat.reduceMul, Nat.reduceEqDiff, reduceCtorEq, Nat.reduceAdd])|refine tri_block ?_|((first|refine tri_skip ?_|refine tri_exit ?_); simp only [thenQ, blockQ, if_true, if_false, Nat.reduceEqDiff, reduceCtorEq])|(refine tri_cond (by rfl) (fun hb => ?_) (fun hb => ?_) <;> (try simp only [decide_eq_true_eq, decide_eq_false_iff_not, Bool.not_eq_true', Bool.not_eq_false', reduceCtorEq, Bool.true_eq_false, Bool.false_eq_true] at hb) <;> (try omega))|refine tri_unk (by rfl) ?_ ?_|refine And.intro (by first|omega|(unfold InR; omega)|assumption|decide|exact ⟨_, _, rfl⟩) ?_|(refine ⟨fun hc => ?_, fun hc => ?_⟩)|(intro hc; try omega))
  · exact (errPlan_1 fun h => by have := h.rows; omega).symm
  · refine tri_loopI (fun k : Nat => AS.of [(0, .one (.val (.sl (.sl .int)) p)), (13, .one (.val (.sl (.sl .int)) p)), (14, .I p.length), (15, .I k)] [] []) (fun k => k ≤ p.length ∧ ∀ j, j < k → (1 ≤ (p.getD j []).length ∧ (p.getD j []).length ≤ 5) ∧ (p.getD j []).length = wid p ∧ ∀ x ∈ p.getD j [], 0 ≤ x ∧ x ≤ 150) (fun k => p.length - k) 0 ⟨Nat.zero_le _, by omega⟩ ?_ ?_
    · refine weak_of ?_ ?_ ?_ <;> simp only [push_cast, Int.reduceEq, Int.reduceLT, Int.reduceLE, Int.reduceNeg, Nat.reduceLT, Nat.reduceLeDiff, Int.reduceToNat, Int.cast_ofNat_Int, Nat.reduceBEq, Nat.reduceMul, Nat.reduceEqDiff, reduceCtorEq, Nat.reduceAdd]
    intro k ⟨hk, hj⟩ K' hL
    have bad : ∀ r ∈ p, ¬ (r.length = wid p ∧ ∀ x ∈ r, 0 ≤ x ∧ x ≤ 150) → errPlan p = 1 := fun r hr hn => errPlan_1 fun h => hn ⟨h.len r hr, h.mem r hr⟩
    have hmem : k < p.length → p.getD k [] ∈ p := getD_mem []
    repeat' (first|(refine goK (by assumption) ?_; iterate 4 (try clear hK K))|(refine tri_seqk fun K hK => ?_)|((first|refine tri_region hE rfl ?_|refine tri_ret ?_); simp +contextual only [hnl, ↓kN, ↓kP, ↓kG, ↓qN, ↓qP, ↓qG, push_cast, Int.reduceEq, Int.reduceLT, Int.reduceLE, Int.reduceNeg, Nat.reduceLT, Nat.reduceLeDiff, Int.reduceToNat, Int.cast_ofNat_Int, Nat.reduceBEq, Nat.reduceMul, Nat.reduceEqDiff, reduceCtorEq, Nat.reduceAdd])|refine tri_block ?_|((first|refine tri_skip ?_|refine tri_exit ?_); simp only [thenQ, blockQ, if_true, if_false, Nat.reduceEqDiff, reduceCtorEq])|(refine tri_cond (by rfl) (fun hb => ?_) (fun hb => ?_) <;> (try simp only [decide_eq_true_eq, decide_eq_false_iff_not, Bool.not_eq_true', Bool.not_eq_false', reduceCtorEq, Bool.true_eq_false, Bool.false_eq_true] at hb) <;> (try omega))|refine tri_unk (by rfl) ?_ ?_|refine And.intro (by first|omega|(unfold InR; omega)|assumption|decide|exact ⟨_, _, rfl⟩) ?_|(refine ⟨fun hc => ?_, fun hc => ?_⟩)|(intro hc; try omega))
    · refine (bad _ (hmem (by omega)) fun hn => ?_).symm
      rw [List.any_eq_true] at hb
      obtain ⟨x, h1, h2⟩ := hb
      have h3 := hn.2 x h1
      simp only [Bool.or_eq_true, decide_eq_true_eq] at h2
      omega
    · refine hL _ (k + 1) ⟨by omega, fun j hj' => ?_⟩ (by omega) ?_
      · rcases Nat.lt_or_ge j k with h3 | h3
        · exact hj j h3
        · obtain rfl : j = k := by omega
          refine ⟨by omega, by unfold wid; omega, fun x hx => ?_⟩
          rw [List.any_eq_false] at hb
          have := hb x hx
          simp only [Bool.or_eq_true, decide_eq_true_eq] at this
          omega
      refine weak_of ?_ ?_ ?_ <;> simp only [push_cast, Int.reduceEq, Int.reduceLT, Int.reduceLE, Int.reduceNeg, Nat.reduceLT, Nat.reduceLeDiff, Int.reduceToNat, Int.cast_ofNat_Int, Nat.reduceBEq, Nat.reduceMul, Nat.reduceEqDiff, reduceCtorEq, Nat.reduceAdd]
    · exact (bad _ (hmem (by omega)) fun hn => by have := hn.1; unfold wid at this; omega).symm
    · exact (errPlan_1 fun h => by have h1 := h.len _ (hmem (by omega)); have h2 := h.cols; omega).symm
    · exact (errPlan_1 fun h => by have h1 := h.len _ (hmem (by omega)); have h2 := h.cols; omega).symm
    · refine (errPlan_0 (inPlan_of (by omega) ?_ fun i hi => ?_)).symm
      · have h1 := hj 0 (by omega)
        unfold wid
        omega
      · have h1 := hj i (by omega)
        exact ⟨h1.2.1, fun j hj' => h1.2.2 _ (getD_mem 0 (by rw [h1.2.1]; exact hj'))⟩
  · exact (errPlan_1 fun h => by have := h.rows; omega).symm

theorem rplan_spec : FnSpec Try.prog 19 planCon := by
  refine FnSpec.of_tri' (E := know [(41, withinCon)] [] [] []) (know_ok (all_cons within_spec all_nil) all_nil all_nil) Try.func19 rfl rfl (by kernel_rfl) ?_
  intro C x hE hnl hfit hpre
  simp only [Try.ntmps19, Try.results19, maxLen, Nat.reduceSub, Nat.reducePow, Nat.reduceAdd, Int.cast_ofNat_Int, push_cast] at hnl hfit hpre ⊢
  obtain ⟨(p : List (List Int)), _⟩ := x
  dsimp only at hfit hpre ⊢
  have bad : ∀ i j, i < p.length → ¬ ((p.getD i []).length = wid p ∧ (j < (p.getD i []).length → 0 ≤ (p.getD i []).getD j 0 ∧ (p.getD i []).getD j 0 ≤ 150)) → errPlan p = 1 := fun i j hi hn => errPlan_1 fun h => hn ⟨h.row hi, fun hj => h.at hi (by rw [← h.row hi]; exact hj)⟩
  repeat' (first|(refine goK (by assumption) ?_; iterate 4 (try clear hK K))|(refine tri_seqk fun K hK => ?_)|((first|refine tri_region hE rfl ?_|refine tri_ret ?_|((first|refine tri_drawP hE 1 rfl rfl (by kernel_rfl) ?_|refine tri_drawP hE 2 rfl rfl (by kernel_rfl) ?_|refine tri_drawP hE 3 rfl rfl (by kernel_rfl) ?_|refine tri_drawP hE 4 rfl rfl (by kernel_rfl) ?_); simp only [List.length_cons, List.length_nil, Nat.reduceAdd, Nat.reduceSub, List.take_succ_cons, List.take_zero, List.drop_succ_cons, List.drop_zero])); simp +contextual only [hnl, ↓kN, ↓kP, ↓kG, ↓qN, ↓qP, ↓qG, push_cast, Int.reduceEq, Int.reduceLT, Int.reduceLE, Int.reduceNeg, Nat.reduceLT, Nat.reduceLeDiff, Int.reduceToNat, Int.cast_ofNat_Int, Nat.reduceBEq, Nat.reduceMul, Nat.reduceEqDiff, reduceCtorEq, Nat.reduceAdd])|refine tri_block ?_|((first|refine tri_skip ?_|refine tri_exit ?_); simp only [thenQ, blockQ, if_true, if_false, Nat.reduceEqDiff, reduceCtorEq])|(refine tri_cond (by rfl) (fun hb => ?_) (fun hb => ?_) <;> (try simp only [decide_eq_true_eq, decide_eq_false_iff_not, Bool.not_eq_true', Bool.not_eq_false', reduceCtorEq, Bool.true_eq_false, Bool.false_eq_true] at hb) <;> (try omega))|refine tri_unk (by rfl) ?_ ?_|refine And.intro (by first|omega|(unfold InR; omega)|assumption|decide|exact ⟨_, _, rfl⟩) ?_|(refine ⟨fun hc => ?_, fun hc => ?_⟩)|(intro hc; try omega))
  · exact (errPlan_1 fun h => hb (by have := h.cols; unfold wid at this; omega)).symm
  · have hw : (p.getD 0 []).length = wid p := rfl
    refine tri_loopI (fun k : Nat => AS.of [(0, .one (.val (.sl (.sl .int)) p)), (3, .I k)] [] []) (fun k => k ≤ p.length ∧ ∀ i, i < k → (p.getD i []).length = wid p ∧ ∀ j, j < wid p → 0 ≤ (p.getD i []).getD j 0 ∧ (p.getD i []).getD j 0 ≤ 150) (fun k => p.length - k) 0 ⟨Nat.zero_le _, by omega⟩ ?_ ?_
    · refine weak_of ?_ ?_ ?_ <;> simp only [push_cast, Int.reduceEq, Int.reduceLT, Int.reduceLE, Int.reduceNeg, Nat.reduceLT, Nat.reduceLeDiff, Int.reduceToNat, Int.cast_ofNat_Int, Nat.reduceBEq, Nat.reduceMul, Nat.reduceEqDiff, reduceCtorEq, Nat.reduceAdd]
    intro k ⟨hk, hi⟩ K' hL
    repeat' (first|(refine goK (by assumption) ?_; iterate 4 (try clear hK K))|(refine tri_seqk fun K hK => ?_)|((first|refine tri_region hE rfl ?_|refine tri_ret ?_|((first|refine tri_drawP hE 1 rfl rfl (by kernel_rfl) ?_|refine tri_drawP hE 2 rfl rfl (by kernel_rfl) ?_|refine tri_drawP hE 3 rfl rfl (by kernel_rfl) ?_|refine tri_drawP hE 4 rfl rfl (by kernel_rfl) ?_); simp only [List.length_cons, List.length_nil, Nat.reduceAdd, Nat.reduceSub, List.take_succ_cons, List.take_zero, List.drop_succ_cons, List.drop_zero])); simp +contextual only [hnl, ↓kN, ↓kP, ↓kG, ↓qN, ↓qP, ↓qG, push_cast, Int.reduceEq, Int.reduceLT, Int.reduceLE, Int.reduceNeg, Nat.reduceLT, Nat.reduceLeDiff, Int.reduceToNat, Int.cast_ofNat_Int, Nat.reduceBEq, Nat.reduceMul, Nat.reduceEqDiff, reduceCtorEq, Nat.reduceAdd])|refine tri_block ?_|((first|refine tri_skip ?_|refine tri_exit ?_); simp only [thenQ, blockQ, if_true, if_false, Nat.reduceEqDiff, reduceCtorEq])|(refine tri_cond (by rfl) (fun hb => ?_) (fun hb => ?_) <;> (try simp only [decide_eq_true_eq, decide_eq_false_iff_not, Bool.not_eq_true', Bool.not_eq_false', reduceCtorEq, Bool.true_eq_false, Bool.false_eq_true] at hb) <;> (try omega))|refine tri_unk (by rfl) ?_ ?_|refine And.intro (by first|omega|(unfold InR; omega)|assumption|decide|exact ⟨_, _, rfl⟩) ?_|(refine ⟨fun hc => ?_, fun hc => ?_⟩)|(intro hc; try omega))
    · exact (bad k 0 (by omega) fun hn => by have := hn.1; unfold wid at this; omega).symm
    · have hkw : (p.getD k []).length = wid p := by unfold wid; omega
      refine tri_loopI (fun j : Nat => AS.of [(0, .one (.val (.sl (.sl .int)) p)), (3, .I k), (4, .I j)] [] []) (fun j => j ≤ wid p ∧ ∀ j', j' < j → 0 ≤ (p.getD k []).getD j' 0 ∧ (p.getD k []).getD j' 0 ≤ 150) (fun j => wid p - j) 0 ⟨Nat.zero_le _, by omega⟩ ?_ ?_
      · refine weak_of ?_ ?_ ?_ <;> simp only [push_cast, Int.reduceEq, Int.reduceLT, Int.reduceLE, Int.reduceNeg, Nat.reduceLT, Nat.reduceLeDiff, Int.reduceToNat, Int.cast_ofNat_Int, Nat.reduceBEq, Nat.reduceMul, Nat.reduceEqDiff, reduceCtorEq, Nat.reduceAdd]
      intro j ⟨hj, hj'⟩ K2 hL2
      repeat' (first|(refine goK (by assumption) ?_; iterate 4 (try clear hK K))|(refine tri_seqk fun K hK => ?_)|((first|refine tri_region hE rfl ?_|refine tri_ret ?_|((first|refine tri_drawP hE 1 rfl rfl (by kernel_rfl) ?_|refine tri_drawP hE 2 rfl rfl (by kernel_rfl) ?_|refine tri_drawP hE 3 rfl rfl (by kernel_rfl) ?_|refine tri_drawP hE 4 rfl rfl (by kernel_rfl) ?_); simp only [List.length_cons, List.length_nil, Nat.reduceAdd, Nat.reduceSub, List.take_succ_cons, List.take_zero, List.drop_succ_cons, List.drop_zero])); simp +contextual only [hnl, ↓kN, ↓kP, ↓kG, ↓qN, ↓qP, ↓qG, push_cast, Int.reduceEq, Int.reduceLT, Int.reduceLE, Int.reduceNeg, Nat.reduceLT, Nat.reduceLeDiff, Int.reduceToNat, Int.cast_ofNat_Int, Nat.reduceBEq, Nat.reduceMul, Nat.reduceEqDiff, reduceCtorEq, Nat.reduceAdd])|refine tri_block ?_|((first|refine tri_skip ?_|refine tri_exit ?_); simp only [thenQ, blockQ, if_true, if_false, Nat.reduceEqDiff, reduceCtorEq])|(refine tri_cond (by rfl) (fun hb => ?_) (fun hb => ?_) <;> (try simp only [decide_eq_true_eq, decide_eq_false_iff_not, Bool.not_eq_true', Bool.not_eq_false', reduceCtorEq, Bool.true_eq_false, Bool.false_eq_true] at hb) <;> (try omega))|refine tri_unk (by rfl) ?_ ?_|refine And.intro (by first|omega|(unfold InR; omega)|assumption|decide|exact ⟨_, _, rfl⟩) ?_|(refine ⟨fun hc => ?_, fun hc => ?_⟩)|(intro hc; try omega))
      · exact (bad k j (by omega) fun hn => hb (hn.2 (by omega))).symm
      · refine hL2 _ (j + 1) ⟨by omega, fun j' h1 => ?_⟩ (by omega) ?_
        · rcases Nat.lt_or_ge j' j with h3 | h3
          · exact hj' j' h3
          · obtain rfl : j' = j := by omega
            exact hb
        refine weak_of ?_ ?_ ?_ <;> simp only [push_cast, Int.reduceEq, Int.reduceLT, Int.reduceLE, Int.reduceNeg, Nat.reduceLT, Nat.reduceLeDiff, Int.reduceToNat, Int.cast_ofNat_Int, Nat.reduceBEq, Nat.reduceMul, Nat.reduceEqDiff, reduceCtorEq, Nat.reduceAdd]
      · refine hL _ (k + 1) ⟨by omega, fun i h1 => ?_⟩ (by omega) ?_
        · rcases Nat.lt_or_ge i k with h3 | h3
          · exact hi i h3
          · obtain rfl : i = k := by omega
            exact ⟨hkw, fun j' h4 => hj' j' (by omega)⟩
        refine weak_of ?_ ?_ ?_ <;> simp only [push_cast, Int.reduceEq, Int.reduceLT, Int.reduceLE, Int.reduceNeg, Nat.reduceLT, Nat.reduceLeDiff, Int.reduceToNat, Int.cast_ofNat_Int, Nat.reduceBEq, Nat.reduceMul, Nat.reduceEqDiff, reduceCtorEq, Nat.reduceAdd]
    · exact (errPlan_0 (inPlan_of (by omega) (by omega) fun i h1 => hi i (by omega))).symm
  · exact (errPlan_1 fun h => by have := h.rows; omega).symm
end Go.Proofs.Ytloipnalmkdldaa
