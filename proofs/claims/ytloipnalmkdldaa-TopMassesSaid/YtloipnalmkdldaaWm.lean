/- The statement MassForests as a contract: a forest has the sums of its plan, no other links, and no round. No condition. -/
import Derived.Test.YtloipnalmkdldaaWl
namespace Go.Proofs.Ytloipnalmkdldaa
open Go.RowKit Go.VS Go.OT
set_option linter.unusedSimpArgs false
set_option linter.unusedVariables false

theorem sg_take (l : List Int) : ∀ k, k ≤ l.length → sg k (ga l) = lsum (l.take k)
  | 0, _ => rfl
  | k + 1, h => by
    rw [lsum_take l k (by omega), ← sg_take l k (by omega)]
    rfl
theorem row_lsum {R C : Nat} {q : List (List Int)} (h : Sz R C q) {i : Nat} (hi : i < R) : rowS C (gt q) i = lsum (q.getD i []) := by
  have h1 := h.cols i hi
  have h2 := sg_take (q.getD i []) (q.getD i []).length (Nat.le_refl _)
  rw [List.take_length, h1] at h2
  exact h2
def one1 (q : List (List Int)) (C i j : Nat) : Int := min (gt q i j) 1
def onesV (C : Nat) (q : List (List Int)) : List (List Int) := tbl q.length fun i => tbl C (one1 q C i)
def rowK (q : List (List Int)) (C i k : Nat) : List Int := tbl C fun j => if j < k then one1 q C i j else 0
def difK (p q : List (List Int)) (n : Nat) (j : Nat) : Int := sg n fun r => gt p r j - gt q r j
def colK (p q : List (List Int)) (C i k : Nat) : List Int := tbl C fun j => difK p q (if j < k then i + 1 else i) j
theorem rowK_set {q : List (List Int)} {C i k : Nat} (v : Int) (hv : v = one1 q C i k) : (rowK q C i k).set k v = rowK q C i (k + 1) := by
  unfold rowK
  rw [tbl_set, hv]
  refine tbl_congr fun j hj => ?_
  by_cases h : j = k
  · rw [if_pos h, if_pos (by omega), h]
  · rw [if_neg h]
    by_cases h2 : j < k
    · rw [if_pos h2, if_pos (by omega)]
    · rw [if_neg h2, if_neg (by omega)]
theorem colK_set {p q : List (List Int)} {C i k : Nat} (v : Int) (hv : v = difK p q i k + (gt p i k - gt q i k)) : (colK p q C i k).set k v = colK p q C i (k + 1) := by
  unfold colK
  rw [tbl_set, hv]
  refine tbl_congr fun j hj => ?_
  by_cases h : j = k
  · rw [if_pos h, if_pos (by omega), h]
    rfl
  · rw [if_neg h]
    by_cases h2 : j < k
    · rw [if_pos h2, if_pos (by omega)]
    · rw [if_neg h2, if_neg (by omega)]
theorem rowK_done {q : List (List Int)} {C i : Nat} : rowK q C i C = tbl C (one1 q C i) := tbl_congr fun j hj => if_pos hj
theorem rowK_zero {q : List (List Int)} {C i : Nat} : rowK q C i 0 = List.replicate C 0 := by
  rw [← tbl_const]
  exact tbl_congr fun j hj => if_neg (by omega)
theorem colK_next {p q : List (List Int)} {C i : Nat} : colK p q C i C = colK p q C (i + 1) 0 := by
  unfold colK
  exact tbl_congr fun j hj => by rw [if_pos hj, if_neg (by omega)]
theorem colK_zero {p q : List (List Int)} {C : Nat} : colK p q C 0 0 = List.replicate C 0 := by
  rw [← tbl_const]
  exact tbl_congr fun j hj => rfl
theorem dif_zero {R C : Nat} {p q : List (List Int)} (h : FoI R C p q) {j : Nat} (hj : j < C) : difK p q R j = 0 := by
  have h1 := h.col j hj
  have key : ∀ n, difK p q n j = (sg n fun r => gt p r j) - sg n fun r => gt q r j := by
    intro n
    induction n with
    | zero => rfl
    | succ n ih =>
      show difK p q n j + (gt p n j - gt q n j) = ((sg n fun r => gt p r j) + gt p n j) - ((sg n fun r => gt q r j) + gt q n j)
      omega
  have := key R
  unfold colS at h1
  omega
theorem dif_bnd {R C : Nat} {p q : List (List Int)} (hp : ∀ i j, i < R → j < C → 0 ≤ gt p i j ∧ gt p i j ≤ 750) (hq : ∀ i j, i < R → j < C → 0 ≤ gt q i j ∧ gt q i j ≤ 750) {j : Nat} (hj : j < C) : ∀ n, n ≤ R → -(750 * (n : Int)) ≤ difK p q n j ∧ difK p q n j ≤ 750 * (n : Int)
  | 0, _ => by show _ ≤ (0 : Int) ∧ (0 : Int) ≤ _; omega
  | n + 1, hn => by
    have := dif_bnd hp hq hj n (by omega)
    have h1 := hp n j (by omega) hj
    have h2 := hq n j (by omega) hj
    show _ ≤ difK p q n j + (gt p n j - gt q n j) ∧ difK p q n j + (gt p n j - gt q n j) ≤ _
    omega
theorem ones_len {C : Nat} {q : List (List Int)} : (onesV C q).length = q.length := tbl_len _ _
theorem ones_row {C : Nat} {q : List (List Int)} {i : Nat} (hi : i < q.length) : (onesV C q).getD i [] = tbl C (one1 q C i) := tbl_get _ _ hi
theorem ones_at {C : Nat} {q : List (List Int)} {i j : Nat} (hi : i < q.length) (hj : j < C) : ((onesV C q).getD i []).getD j 0 = min (gt q i j) 1 := by
  rw [ones_row hi, tbl_get _ _ hj]
  rfl
/-- The table of ones has the same links. -/
theorem ones_links {R C : Nat} {q : List (List Int)} (h : Sz R C q) (hR : 0 < R) : lkV (onesV C q) = lkV q := by
  have hw : wid q = C := sz_wid h hR
  have hw2 : wid (onesV C q) = C := by
    show ((onesV C q).getD 0 []).length = C
    rw [ones_row (by rw [h.rows]; exact hR), tbl_len]
  have hrow : ∀ i, i < R → ∀ k, k ≤ C → lkRow (onesV C q) i k = lkRow q i k := by
    intro i hi k
    induction k with
    | zero => intro _; rfl
    | succ k ih =>
      intro hk
      simp only [lkRow]
      rw [ih (by omega), ones_at (by rw [h.rows]; exact hi) (by omega)]
      have e : (0 < min (gt q i k) 1) ↔ 0 < (q.getD i []).getD k 0 := by
        show _ ↔ 0 < gt q i k
        omega
      simp only [e]
  have hto : ∀ n, n ≤ R → lkTo (onesV C q) n = lkTo q n := by
    intro n
    induction n with
    | zero => intro _; rfl
    | succ n ih =>
      intro hn
      simp only [lkTo]
      rw [ih (by omega), hw, hw2, hrow n (by omega) C (Nat.le_refl _)]
  unfold lkV
  rw [ones_len, hto q.length (by rw [h.rows]; exact Nat.le_refl _)]
theorem ones_plan {R C : Nat} {p q : List (List Int)} (h : FoI R C p q) (hR : 1 ≤ R ∧ R ≤ 5) (hC : 1 ≤ C ∧ C ≤ 5) : InPlan (onesV C q) := by
  have hl : q.length = R := h.sz.rows
  have hw2 : wid (onesV C q) = C := by
    show ((onesV C q).getD 0 []).length = C
    rw [ones_row (by omega), tbl_len]
  refine inPlan_of (by rw [ones_len]; omega) (by omega) fun i hi => ?_
  rw [ones_len] at hi
  rw [hw2]
  refine ⟨by rw [ones_row hi, tbl_len], fun j hj => ?_⟩
  rw [ones_at hi hj]
  have := h.nn i j (by omega) hj
  omega
theorem ones_forest {R C : Nat} {p q : List (List Int)} (h : FoI R C p q) (hR : 1 ≤ R ∧ R ≤ 5) (hC : 1 ≤ C ∧ C ≤ 5) (hb : boundV (lkV q) = []) : errPlan (onesV C q) = 0 ∧ isFoE (onesV C q) = true := by
  have h1 : errPlan (onesV C q) = 0 := by
    unfold errPlan
    rw [if_pos (okPlan_iff.2 (ones_plan h hR hC))]
  refine ⟨h1, decide_eq_true ⟨h1, ?_⟩⟩
  rw [ones_links h.sz hR.1]
  exact hb

set_option maxHeartbeats 4000000 in
theorem forests_fn : FnSpec Try.prog 5 trueConT := by
  refine FnSpec.of_tri' (E := know [(7, longCon), (8, knownCon), (18, forestCon), (19, planCon), (20, totalCon), (12, isFoCon)] [] [] []) (know_ok (all_cons long_spec (all_cons known_spec (all_cons forest_spec (all_cons rplan_spec (all_cons rsum_spec (all_cons risFo_spec all_nil)))))) all_nil all_nil) Try.func5 rfl rfl (by kernel_rfl) ?_
  intro C x hE hnl hfit hpre
  simp only [Try.ntmps5, Try.results5, maxLen, Nat.reduceSub, Nat.reducePow, Nat.reduceAdd, Int.cast_ofNat_Int, push_cast] at hnl hfit hpre ⊢
  obtain ⟨(p : List (List Int)), _⟩ := x
  dsimp only at hfit hpre ⊢
  have hz : (if errPlan p = 0 then forestV p else []) = [] ∨ errPlan p = 0 := by
    by_cases h : errPlan p = 0
    · exact .inr h
    · rw [if_neg h]; exact .inl rfl
  by_cases h : errPlan p = 0
  · have h1 := errPlan_in h
    have hR := h1.rows
    have hC := h1.cols
    obtain ⟨hI, hb0⟩ := forestV_ok h1
    obtain ⟨Q, hQ⟩ : ∃ Q, Q = forestV p := ⟨_, rfl⟩
    rw [← hQ] at hI hb0
    have hQl := hI.sz.rows
    have hw0 : (p.getD 0 []).length = wid p := rfl
    obtain ⟨C', hC'⟩ : ∃ C', C' = wid p := ⟨_, rfl⟩
    obtain ⟨o1, o2⟩ := ones_forest hI hR hC hb0
    have hpb : ∀ i j, i < p.length → j < wid p → 0 ≤ gt p i j ∧ gt p i j ≤ 750 := fun i j hi hj => by have := h1.at hi hj; show 0 ≤ (p.getD i []).getD j 0 ∧ (p.getD i []).getD j 0 ≤ 750; omega
    have hqb : ∀ i j, i < p.length → j < wid p → 0 ≤ gt Q i j ∧ gt Q i j ≤ 750 := fun i j hi hj => ⟨hI.nn i j hi hj, hI.le h1 hi hj⟩
    have hnl00 := hnl
    replace hnl := And.intro hnl (And.intro h (And.intro hQ.symm (And.intro hQl (And.intro hw0 boolsF))))
    have hnl0 := hnl
    repeat' (first|(refine goK (by assumption) ?_; iterate 4 (try clear hK K))|(refine tri_seqk fun K hK => ?_)|((first|refine tri_region hE rfl ?_|refine tri_ret ?_|((first|refine tri_drawP hE 1 rfl rfl (by kernel_rfl) ?_|refine tri_drawP hE 2 rfl rfl (by kernel_rfl) ?_|refine tri_drawP hE 3 rfl rfl (by kernel_rfl) ?_|refine tri_drawP hE 4 rfl rfl (by kernel_rfl) ?_); simp only [List.length_cons, List.length_nil, Nat.reduceAdd, Nat.reduceSub, List.take_succ_cons, List.take_zero, List.drop_succ_cons, List.drop_zero])); simp +contextual only [hnl, ↓kN, ↓kP, ↓kG, ↓qN, ↓qP, ↓qG, push_cast, Int.reduceEq, Int.reduceLT, Int.reduceLE, Int.reduceNeg, Nat.reduceLT, Nat.reduceLeDiff, Int.reduceToNat, Int.cast_ofNat_Int, Nat.reduceBEq, Nat.reduceMul, Nat.reduceEqDiff, reduceCtorEq, Nat.reduceAdd])|refine tri_block ?_|((first|refine tri_skip ?_|refine tri_exit ?_); simp only [thenQ, blockQ, if_true, if_false, Nat.reduceEqDiff, reduceCtorEq])|(refine tri_cond (by rfl) (fun hb => ?_) (fun hb => ?_) <;> (try simp only [decide_eq_true_eq, decide_eq_false_iff_not, Bool.not_eq_true', Bool.not_eq_false', reduceCtorEq, Bool.true_eq_false, Bool.false_eq_true] at hb) <;> (try omega))|refine tri_unk (by rfl) ?_ ?_|refine And.intro (by first|omega|(unfold InR; omega)|assumption|decide|exact ⟨_, _, rfl⟩) ?_|(refine ⟨fun hc => ?_, fun hc => ?_⟩)|(intro hc; try omega))
    refine tri_loopI (fun i : Nat => AS.of [(0, .one (.val (.sl (.sl .int)) p)), (3, .one (.val (.sl (.sl .int)) Q)), (5, .one (.ref 151)), (6, .one (.ref 42)), (7, .I i)] [(151, .deep 33 3 .int (tbl i fun r => tbl (wid p) (one1 Q (wid p) r))), (42, .flat 3 .int (colK p Q (wid p) i 0))] []) (fun i => i ≤ p.length) (fun i => p.length - i) 0 (Nat.zero_le _) ?_ ?_
    · refine weak_of ?_ ?_ ?_ <;> simp only [push_cast, Int.reduceEq, Int.reduceLT, Int.reduceLE, Int.reduceNeg, Nat.reduceLT, Nat.reduceLeDiff, Int.reduceToNat, Int.cast_ofNat_Int, Nat.reduceBEq, Nat.reduceMul, Nat.reduceEqDiff, reduceCtorEq, Nat.reduceAdd]
      exact ⟨⟨by omega, rfl⟩, .inl (by rw [colK_zero])⟩
    intro i hi K' hL
    rcases Nat.lt_or_ge i p.length with hil | hil
    · have r1 := h1.row hil
      have r2 := hI.sz.cols i hil
      have r3 : lsum (Q.getD i []) = lsum (p.getD i []) := by
        have := hI.row i hil
        rwa [row_lsum hI.sz hil, row_lsum (plan_foi h1).sz hil] at this
      have b1 : ∀ k, InR (lsum ((Q.getD i []).take k)) := fun k => by
        have := lsum_bound 750 (by omega) ((Q.getD i []).take k) (fun x hx => by
          obtain ⟨j, hj, rfl⟩ := List.getElem_of_mem (List.mem_of_mem_take hx)
          have h9 := hqb i j hil (by omega)
          have e9 : gt Q i j = (Q.getD i [])[j] := by show (Q.getD i []).getD j 0 = _; rw [List.getD_eq_getElem?_getD, List.getElem?_eq_getElem hj]; rfl
          rwa [e9] at h9)
        have h8 : ((Q.getD i []).take k).length ≤ 5 := by rw [List.length_take]; omega
        unfold InR
        omega
      have b2 : ∀ k, InR (lsum ((p.getD i []).take k)) := fun k => by
        have := h1.sumR hil k
        unfold InR
        omega
      replace hnl := And.intro hnl0 (And.intro r1 (And.intro r2 r3))
      repeat' (first|(refine goK (by assumption) ?_; iterate 4 (try clear hK K))|(refine tri_seqk fun K hK => ?_)|((first|refine tri_region hE rfl ?_|refine tri_ret ?_|((first|refine tri_drawP hE 1 rfl rfl (by kernel_rfl) ?_|refine tri_drawP hE 2 rfl rfl (by kernel_rfl) ?_|refine tri_drawP hE 3 rfl rfl (by kernel_rfl) ?_|refine tri_drawP hE 4 rfl rfl (by kernel_rfl) ?_); simp only [List.length_cons, List.length_nil, Nat.reduceAdd, Nat.reduceSub, List.take_succ_cons, List.take_zero, List.drop_succ_cons, List.drop_zero])); simp +contextual only [hnl, ↓kN, ↓kP, ↓kG, ↓qN, ↓qP, ↓qG, push_cast, Int.reduceEq, Int.reduceLT, Int.reduceLE, Int.reduceNeg, Nat.reduceLT, Nat.reduceLeDiff, Int.reduceToNat, Int.cast_ofNat_Int, Nat.reduceBEq, Nat.reduceMul, Nat.reduceEqDiff, reduceCtorEq, Nat.reduceAdd])|refine tri_block ?_|((first|refine tri_skip ?_|refine tri_exit ?_); simp only [thenQ, blockQ, if_true, if_false, Nat.reduceEqDiff, reduceCtorEq])|(refine tri_cond (by rfl) (fun hb => ?_) (fun hb => ?_) <;> (try simp only [decide_eq_true_eq, decide_eq_false_iff_not, Bool.not_eq_true', Bool.not_eq_false', reduceCtorEq, Bool.true_eq_false, Bool.false_eq_true] at hb) <;> (try omega))|refine tri_unk (by rfl) ?_ ?_|refine And.intro (by first|omega|(unfold InR; omega)|assumption|decide|exact ⟨_, _, rfl⟩) ?_|(refine ⟨fun hc => ?_, fun hc => ?_⟩)|(intro hc; try omega))
      refine tri_loopI (fun k : Nat => AS.of [(0, .one (.val (.sl (.sl .int)) p)), (3, .one (.val (.sl (.sl .int)) Q)), (5, .one (.ref 151)), (6, .one (.ref 42)), (7, .I i), (8, .one (.ref 78)), (9, .I k)] [(151, .deep 33 3 .int (tbl i fun r => tbl (wid p) (one1 Q (wid p) r))), (42, .flat 3 .int (colK p Q (wid p) i k)), (78, .flat 3 .int (rowK Q (wid p) i k))] []) (fun k => k ≤ wid p) (fun k => wid p - k) 0 (Nat.zero_le _) ?_ ?_
      · refine weak_of ?_ ?_ ?_ <;> simp only [push_cast, Int.reduceEq, Int.reduceLT, Int.reduceLE, Int.reduceNeg, Nat.reduceLT, Nat.reduceLeDiff, Int.reduceToNat, Int.cast_ofNat_Int, Nat.reduceBEq, Nat.reduceMul, Nat.reduceEqDiff, reduceCtorEq, Nat.reduceAdd]
        exact .inl (by rw [rowK_zero])
      intro k hk K2 hL2
      rcases Nat.lt_or_ge k (wid p) with hkl | hkl
      · have g1 : (Q.getD i []).getD k 0 = gt Q i k := rfl
        have g2 : (p.getD i []).getD k 0 = gt p i k := rfl
        have g3 : (rowK Q (wid p) i k).length = wid p := tbl_len _ _
        have g4 : (colK p Q (wid p) i k).length = wid p := tbl_len _ _
        have g5 : (colK p Q (wid p) i k).getD k 0 = difK p Q i k := by
          unfold colK
          rw [tbl_get _ _ hkl, if_neg (Nat.lt_irrefl k)]
        have g6 := hpb i k hil hkl
        have g7 := hqb i k hil hkl
        have g8 := hI.sub i k hil hkl
        have g9 := dif_bnd hpb hqb hkl i hi
        replace hnl := And.intro hnl (And.intro g1 (And.intro g2 (And.intro g3 (And.intro g4 g5))))
        repeat' (first|(refine goK (by assumption) ?_; iterate 4 (try clear hK K))|(refine tri_seqk fun K hK => ?_)|((first|refine tri_region hE rfl ?_|refine tri_ret ?_|((first|refine tri_drawP hE 1 rfl rfl (by kernel_rfl) ?_|refine tri_drawP hE 2 rfl rfl (by kernel_rfl) ?_|refine tri_drawP hE 3 rfl rfl (by kernel_rfl) ?_|refine tri_drawP hE 4 rfl rfl (by kernel_rfl) ?_); simp only [List.length_cons, List.length_nil, Nat.reduceAdd, Nat.reduceSub, List.take_succ_cons, List.take_zero, List.drop_succ_cons, List.drop_zero])); simp +contextual only [hnl, ↓kN, ↓kP, ↓kG, ↓qN, ↓qP, ↓qG, push_cast, Int.reduceEq, Int.reduceLT, Int.reduceLE, Int.reduceNeg, Nat.reduceLT, Nat.reduceLeDiff, Int.reduceToNat, Int.cast_ofNat_Int, Nat.reduceBEq, Nat.reduceMul, Nat.reduceEqDiff, reduceCtorEq, Nat.reduceAdd])|refine tri_block ?_|((first|refine tri_skip ?_|refine tri_exit ?_); simp only [thenQ, blockQ, if_true, if_false, Nat.reduceEqDiff, reduceCtorEq])|(refine tri_cond (by rfl) (fun hb => ?_) (fun hb => ?_) <;> (try simp only [decide_eq_true_eq, decide_eq_false_iff_not, Bool.not_eq_true', Bool.not_eq_false', reduceCtorEq, Bool.true_eq_false, Bool.false_eq_true] at hb) <;> (try omega))|refine tri_unk (by rfl) ?_ ?_|refine And.intro (by first|omega|(unfold InR; omega)|assumption|decide|exact ⟨_, _, rfl⟩) ?_|(refine ⟨fun hc => ?_, fun hc => ?_⟩)|(intro hc; try omega))
        all_goals first | (exfalso; omega) | refine hL2 _ (k + 1) (by omega) (by omega) ?_
        all_goals refine weak_of ?_ ?_ ?_ <;> simp only [push_cast, Int.reduceEq, Int.reduceLT, Int.reduceLE, Int.reduceNeg, Nat.reduceLT, Nat.reduceLeDiff, Int.reduceToNat, Int.cast_ofNat_Int, Nat.reduceBEq, Nat.reduceMul, Nat.reduceEqDiff, reduceCtorEq, Nat.reduceAdd]
        all_goals exact ⟨.inl (by rw [colK_set _ rfl]), .inl (by rw [rowK_set (min (gt Q i k) 1) rfl])⟩
      · obtain rfl : k = wid p := by omega
        have gl : (tbl i fun r => tbl (wid p) (one1 Q (wid p) r)).length = i := tbl_len _ _
        replace hnl := And.intro hnl gl
        repeat' (first|(refine goK (by assumption) ?_; iterate 4 (try clear hK K))|(refine tri_seqk fun K hK => ?_)|((first|refine tri_region hE rfl ?_|refine tri_ret ?_|((first|refine tri_drawP hE 1 rfl rfl (by kernel_rfl) ?_|refine tri_drawP hE 2 rfl rfl (by kernel_rfl) ?_|refine tri_drawP hE 3 rfl rfl (by kernel_rfl) ?_|refine tri_drawP hE 4 rfl rfl (by kernel_rfl) ?_); simp only [List.length_cons, List.length_nil, Nat.reduceAdd, Nat.reduceSub, List.take_succ_cons, List.take_zero, List.drop_succ_cons, List.drop_zero])); simp +contextual only [hnl, ↓kN, ↓kP, ↓kG, ↓qN, ↓qP, ↓qG, push_cast, Int.reduceEq, Int.reduceLT, Int.reduceLE, Int.reduceNeg, Nat.reduceLT, Nat.reduceLeDiff, Int.reduceToNat, Int.cast_ofNat_Int, Nat.reduceBEq, Nat.reduceMul, Nat.reduceEqDiff, reduceCtorEq, Nat.reduceAdd])|refine tri_block ?_|((first|refine tri_skip ?_|refine tri_exit ?_); simp only [thenQ, blockQ, if_true, if_false, Nat.reduceEqDiff, reduceCtorEq])|(refine tri_cond (by rfl) (fun hb => ?_) (fun hb => ?_) <;> (try simp only [decide_eq_true_eq, decide_eq_false_iff_not, Bool.not_eq_true', Bool.not_eq_false', reduceCtorEq, Bool.true_eq_false, Bool.false_eq_true] at hb) <;> (try omega))|refine tri_unk (by rfl) ?_ ?_|refine And.intro (by first|omega|(unfold InR; omega)|assumption|decide|exact ⟨_, _, rfl⟩) ?_|(refine ⟨fun hc => ?_, fun hc => ?_⟩)|(intro hc; try omega))
        refine hL _ (i + 1) (by omega) (by omega) ?_
        refine weak_of ?_ ?_ ?_ <;> simp only [push_cast, Int.reduceEq, Int.reduceLT, Int.reduceLE, Int.reduceNeg, Nat.reduceLT, Nat.reduceLeDiff, Int.reduceToNat, Int.cast_ofNat_Int, Nat.reduceBEq, Nat.reduceMul, Nat.reduceEqDiff, reduceCtorEq, Nat.reduceAdd]
        exact ⟨.inl (by rw [tbl_succ, rowK_done]), .inl (by rw [colK_next])⟩
    · obtain rfl : i = p.length := by omega
      repeat' (first|(refine goK (by assumption) ?_; iterate 4 (try clear hK K))|(refine tri_seqk fun K hK => ?_)|((first|refine tri_region hE rfl ?_|refine tri_ret ?_|((first|refine tri_drawP hE 1 rfl rfl (by kernel_rfl) ?_|refine tri_drawP hE 2 rfl rfl (by kernel_rfl) ?_|refine tri_drawP hE 3 rfl rfl (by kernel_rfl) ?_|refine tri_drawP hE 4 rfl rfl (by kernel_rfl) ?_); simp only [List.length_cons, List.length_nil, Nat.reduceAdd, Nat.reduceSub, List.take_succ_cons, List.take_zero, List.drop_succ_cons, List.drop_zero])); simp +contextual only [hnl, ↓kN, ↓kP, ↓kG, ↓qN, ↓qP, ↓qG, push_cast, Int.reduceEq, Int.reduceLT, Int.reduceLE, Int.reduceNeg, Nat.reduceLT, Nat.reduceLeDiff, Int.reduceToNat, Int.cast_ofNat_Int, Nat.reduceBEq, Nat.reduceMul, Nat.reduceEqDiff, reduceCtorEq, Nat.reduceAdd])|refine tri_block ?_|((first|refine tri_skip ?_|refine tri_exit ?_); simp only [thenQ, blockQ, if_true, if_false, Nat.reduceEqDiff, reduceCtorEq])|(refine tri_cond (by rfl) (fun hb => ?_) (fun hb => ?_) <;> (try simp only [decide_eq_true_eq, decide_eq_false_iff_not, Bool.not_eq_true', Bool.not_eq_false', reduceCtorEq, Bool.true_eq_false, Bool.false_eq_true] at hb) <;> (try omega))|refine tri_unk (by rfl) ?_ ?_|refine And.intro (by first|omega|(unfold InR; omega)|assumption|decide|exact ⟨_, _, rfl⟩) ?_|(refine ⟨fun hc => ?_, fun hc => ?_⟩)|(intro hc; try omega))
      refine tri_loopI (fun k : Nat => AS.of [(5, .one (.ref 151)), (6, .one (.ref 42)), (10, .I k)] [(151, .deep 33 3 .int (onesV (wid p) Q)), (42, .flat 3 .int (colK p Q (wid p) p.length 0))] []) (fun k => k ≤ wid p) (fun k => wid p - k) 0 (Nat.zero_le _) ?_ ?_
      · refine weak_of ?_ ?_ ?_ <;> simp only [push_cast, Int.reduceEq, Int.reduceLT, Int.reduceLE, Int.reduceNeg, Nat.reduceLT, Nat.reduceLeDiff, Int.reduceToNat, Int.cast_ofNat_Int, Nat.reduceBEq, Nat.reduceMul, Nat.reduceEqDiff, reduceCtorEq, Nat.reduceAdd]
        exact .inl (by rw [onesV, hQl])
      intro k hk K2 hL2
      have g4 : (colK p Q (wid p) p.length 0).length = wid p := tbl_len _ _
      rcases Nat.lt_or_ge k (wid p) with hkl | hkl
      · have g5 : (colK p Q (wid p) p.length 0).getD k 0 = 0 := by
          unfold colK
          rw [tbl_get _ _ hkl, if_neg (Nat.not_lt_zero k)]
          exact dif_zero hI hkl
        replace hnl := And.intro hnl (And.intro g4 g5)
        repeat' (first|(refine goK (by assumption) ?_; iterate 4 (try clear hK K))|(refine tri_seqk fun K hK => ?_)|((first|refine tri_region hE rfl ?_|refine tri_ret ?_|((first|refine tri_drawP hE 1 rfl rfl (by kernel_rfl) ?_|refine tri_drawP hE 2 rfl rfl (by kernel_rfl) ?_|refine tri_drawP hE 3 rfl rfl (by kernel_rfl) ?_|refine tri_drawP hE 4 rfl rfl (by kernel_rfl) ?_); simp only [List.length_cons, List.length_nil, Nat.reduceAdd, Nat.reduceSub, List.take_succ_cons, List.take_zero, List.drop_succ_cons, List.drop_zero])); simp +contextual only [hnl, ↓kN, ↓kP, ↓kG, ↓qN, ↓qP, ↓qG, push_cast, Int.reduceEq, Int.reduceLT, Int.reduceLE, Int.reduceNeg, Nat.reduceLT, Nat.reduceLeDiff, Int.reduceToNat, Int.cast_ofNat_Int, Nat.reduceBEq, Nat.reduceMul, Nat.reduceEqDiff, reduceCtorEq, Nat.reduceAdd])|refine tri_block ?_|((first|refine tri_skip ?_|refine tri_exit ?_); simp only [thenQ, blockQ, if_true, if_false, Nat.reduceEqDiff, reduceCtorEq])|(refine tri_cond (by rfl) (fun hb => ?_) (fun hb => ?_) <;> (try simp only [decide_eq_true_eq, decide_eq_false_iff_not, Bool.not_eq_true', Bool.not_eq_false', reduceCtorEq, Bool.true_eq_false, Bool.false_eq_true] at hb) <;> (try omega))|refine tri_unk (by rfl) ?_ ?_|refine And.intro (by first|omega|(unfold InR; omega)|assumption|decide|exact ⟨_, _, rfl⟩) ?_|(refine ⟨fun hc => ?_, fun hc => ?_⟩)|(intro hc; try omega))
        refine hL2 _ (k + 1) (by omega) (by omega) ?_
        refine weak_of ?_ ?_ ?_ <;> simp only [push_cast, Int.reduceEq, Int.reduceLT, Int.reduceLE, Int.reduceNeg, Nat.reduceLT, Nat.reduceLeDiff, Int.reduceToNat, Int.cast_ofNat_Int, Nat.reduceBEq, Nat.reduceMul, Nat.reduceEqDiff, reduceCtorEq, Nat.reduceAdd]
      · obtain rfl : k = wid p := by omega
        replace hnl := And.intro hnl (And.intro g4 (And.intro o1 o2))
        repeat' (first|(refine goK (by assumption) ?_; iterate 4 (try clear hK K))|(refine tri_seqk fun K hK => ?_)|((first|refine tri_region hE rfl ?_|refine tri_ret ?_|((first|refine tri_drawP hE 1 rfl rfl (by kernel_rfl) ?_|refine tri_drawP hE 2 rfl rfl (by kernel_rfl) ?_|refine tri_drawP hE 3 rfl rfl (by kernel_rfl) ?_|refine tri_drawP hE 4 rfl rfl (by kernel_rfl) ?_); simp only [List.length_cons, List.length_nil, Nat.reduceAdd, Nat.reduceSub, List.take_succ_cons, List.take_zero, List.drop_succ_cons, List.drop_zero])); simp +contextual only [hnl, ↓kN, ↓kP, ↓kG, ↓qN, ↓qP, ↓qG, push_cast, Int.reduceEq, Int.reduceLT, Int.reduceLE, Int.reduceNeg, Nat.reduceLT, Nat.reduceLeDiff, Int.reduceToNat, Int.cast_ofNat_Int, Nat.reduceBEq, Nat.reduceMul, Nat.reduceEqDiff, reduceCtorEq, Nat.reduceAdd])|refine tri_block ?_|((first|refine tri_skip ?_|refine tri_exit ?_); simp only [thenQ, blockQ, if_true, if_false, Nat.reduceEqDiff, reduceCtorEq])|(refine tri_cond (by rfl) (fun hb => ?_) (fun hb => ?_) <;> (try simp only [decide_eq_true_eq, decide_eq_false_iff_not, Bool.not_eq_true', Bool.not_eq_false', reduceCtorEq, Bool.true_eq_false, Bool.false_eq_true] at hb) <;> (try omega))|refine tri_unk (by rfl) ?_ ?_|refine And.intro (by first|omega|(unfold InR; omega)|assumption|decide|exact ⟨_, _, rfl⟩) ?_|(refine ⟨fun hc => ?_, fun hc => ?_⟩)|(intro hc; try omega))
        all_goals trace_state
  · replace hnl := And.intro hnl (And.intro (eq_false h) boolsF)
    repeat' (first|(refine goK (by assumption) ?_; iterate 4 (try clear hK K))|(refine tri_seqk fun K hK => ?_)|((first|refine tri_region hE rfl ?_|refine tri_ret ?_|((first|refine tri_drawP hE 1 rfl rfl (by kernel_rfl) ?_|refine tri_drawP hE 2 rfl rfl (by kernel_rfl) ?_|refine tri_drawP hE 3 rfl rfl (by kernel_rfl) ?_|refine tri_drawP hE 4 rfl rfl (by kernel_rfl) ?_); simp only [List.length_cons, List.length_nil, Nat.reduceAdd, Nat.reduceSub, List.take_succ_cons, List.take_zero, List.drop_succ_cons, List.drop_zero])); simp +contextual only [hnl, ↓kN, ↓kP, ↓kG, ↓qN, ↓qP, ↓qG, push_cast, Int.reduceEq, Int.reduceLT, Int.reduceLE, Int.reduceNeg, Nat.reduceLT, Nat.reduceLeDiff, Int.reduceToNat, Int.cast_ofNat_Int, Nat.reduceBEq, Nat.reduceMul, Nat.reduceEqDiff, reduceCtorEq, Nat.reduceAdd])|refine tri_block ?_|((first|refine tri_skip ?_|refine tri_exit ?_); simp only [thenQ, blockQ, if_true, if_false, Nat.reduceEqDiff, reduceCtorEq])|(refine tri_cond (by rfl) (fun hb => ?_) (fun hb => ?_) <;> (try simp only [decide_eq_true_eq, decide_eq_false_iff_not, Bool.not_eq_true', Bool.not_eq_false', reduceCtorEq, Bool.true_eq_false, Bool.false_eq_true] at hb) <;> (try omega))|refine tri_unk (by rfl) ?_ ?_|refine And.intro (by first|omega|(unfold InR; omega)|assumption|decide|exact ⟨_, _, rfl⟩) ?_|(refine ⟨fun hc => ?_, fun hc => ?_⟩)|(intro hc; try omega))
    all_goals trace_state
end Go.Proofs.Ytloipnalmkdldaa
