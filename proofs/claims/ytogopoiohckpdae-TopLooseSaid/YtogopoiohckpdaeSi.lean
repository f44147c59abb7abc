/- Loose plans: what they move and cost, by the program. Conditions: in each contract. -/
import Derived.Test.YtogopoiohckpdaeSg
import Derived.Test.YtogopoiohckpdaeHp
namespace Go.Proofs.Ytogopoiohckpdae
open Go.RowKit Go.VS Go.OT
set_option linter.unusedSimpArgs false
set_option linter.unusedVariables false

/-- The sum of column k in the first i rows. -/
def cK (p : List (List Int)) (i k : Nat) : Int := sg i fun r => gt p r k
/-- The sums of columns: all of the first i rows, the first j of row i. -/
def colB (p : List (List Int)) (i j : Nat) : List Int := tbl (wid p) fun k => cK p i k + (if k < j then gt p i k else 0)
section
variable {p : List (List Int)}
theorem colB_len (i j : Nat) : (colB p i j).length = wid p := tbl_len _ _
theorem colB_at (i j : Nat) {k : Nat} (hk : k < wid p) : (colB p i j).getD k 0 = cK p i k + (if k < j then gt p i k else 0) := tbl_get _ _ hk
theorem colB_next (i : Nat) : colB p i (wid p) = colB p (i + 1) 0 := tbl_congr fun k hk => by
  rw [if_pos hk, if_neg (by omega)]
  show _ = (cK p i k + gt p i k) + 0
  omega
theorem colB_step {i j : Nat} (hj : j < wid p) {x : Int} (hx : x = (colB p i j).getD j 0 + gt p i j) : (colB p i j).set j x = colB p i (j + 1) := by
  unfold colB at hx ⊢
  rw [tbl_get _ _ hj, if_neg (by omega)] at hx
  rw [tbl_set]
  refine tbl_congr fun k hk => ?_
  by_cases h : k = j
  · subst h
    rw [if_pos rfl, if_pos (by omega), hx]
    omega
  · rw [if_neg h]
    by_cases h2 : k < j
    · rw [if_pos h2, if_pos (by omega)]
    · rw [if_neg h2, if_neg (by omega)]
theorem colB_zero : colB p 0 0 = List.replicate (wid p) 0 := by
  unfold colB tbl
  apply List.ext_getElem
  · simp
  · intro k h1 h2
    simp [cK, sg]
theorem cK_bnd (h : InPlan p) : ∀ i k, i ≤ p.length → k < wid p → 0 ≤ cK p i k ∧ cK p i k ≤ 150 * i
  | 0, k, _, _ => by simp [cK, sg]
  | i + 1, k, hi, hk => by
    have h1 := cK_bnd h i k (by omega) hk
    have h2 : 0 ≤ gt p i k ∧ gt p i k ≤ 150 := h.at (show i < p.length by omega) hk
    show 0 ≤ cK p i k + gt p i k ∧ cK p i k + gt p i k ≤ _
    omega
end

theorem row_sum {p : List (List Int)} (h : InPlan p) {i : Nat} (hi : i < p.length) (m : Nat) : InR (lsum ((p.getD i []).take m)) := by
  have h1 := h.row hi
  have h2 := h.cols
  have key : ∀ m, m ≤ (p.getD i []).length → 0 ≤ lsum ((p.getD i []).take m) ∧ lsum ((p.getD i []).take m) ≤ 150 * m := by
    intro m
    induction m with
    | zero => intro _; simp [lsum]
    | succ m ih =>
      intro hm
      have := ih (by omega)
      have k3 : 0 ≤ (p.getD i []).getD m 0 ∧ (p.getD i []).getD m 0 ≤ 150 := h.at hi (by omega)
      rw [lsum_take _ m (by omega)]
      omega
  rcases Nat.lt_or_ge (p.getD i []).length m with h3 | h3
  · rw [List.take_of_length_le (by omega)]
    have := key _ (Nat.le_refl _)
    rw [List.take_length] at this
    unfold InR
    omega
  · have := key m h3
    unfold InR
    omega

structure LooseP (a b : List Int) (p : List (List Int)) : Prop where
  rows : p.length = a.length
  cols : wid p = b.length
  ra : ∀ i, i < p.length → lsum (p.getD i []) ≤ a.getD i 0
  cb : ∀ k, k < wid p → cK p p.length k ≤ b.getD k 0
theorem looseP_iff {a b : List Int} {p : List (List Int)} : LooseP a b p ↔ (p.length = a.length ∧ wid p = b.length ∧ (∀ i, i < p.length → lsum (p.getD i []) ≤ a.getD i 0) ∧ ∀ k, k < wid p → cK p p.length k ≤ b.getD k 0) :=
  ⟨fun ⟨a, b, c, d⟩ => ⟨a, b, c, d⟩, fun ⟨a, b, c, d⟩ => ⟨a, b, c, d⟩⟩
instance (a b : List Int) (p : List (List Int)) : Decidable (LooseP a b p) := decidable_of_iff _ looseP_iff.symm
def errLo (a b : List Int) (p : List (List Int)) : Int := if errMass a = 0 ∧ errMass b = 0 ∧ errPlan p = 0 then if LooseP a b p then 0 else 7 else 1
@[push_cast] def loCon : Con := ⟨[.dat (.sl .int), .dat (.sl .int), .dat (.sl (.sl .int))], fun _ => True, fun (x : List Int × List Int × List (List Int) × Unit) => { res := [.val .int (errLo x.1 x.2.1 x.2.2.1)] }⟩
theorem errMass_01 (a : List Int) : errMass a = 0 ∨ errMass a = 1 := by
  unfold errMass
  split <;> simp
theorem orV_lo (a b : List Int) (p : List (List Int)) : (errMass a = 0 ∧ errMass b = 0 ∧ errPlan p = 0 ∧ orV [errMass a, errMass b, errPlan p] = 0) ∨ (errLo a b p = 1 ∧ orV [errMass a, errMass b, errPlan p] = 1) := by
  have h1 := errMass_01 a
  have h2 := errMass_01 b
  have h3 := errPlan_01 p
  simp only [orV_cons, orV_nil]
  by_cases h : errMass a = 0 ∧ errMass b = 0 ∧ errPlan p = 0
  · obtain ⟨e1, e2, e3⟩ := h
    left
    rw [if_pos e1, if_pos e2, if_pos e3]
    exact ⟨e1, e2, e3, rfl⟩
  · right
    refine ⟨if_neg h, ?_⟩
    by_cases e1 : errMass a = 0
    · by_cases e2 : errMass b = 0
      · have e3 : ¬ errPlan p = 0 := fun e3 => h ⟨e1, e2, e3⟩
        rw [if_pos e1, if_pos e2, if_neg e3]
        omega
      · rw [if_pos e1, if_neg e2]
        omega
    · rw [if_neg e1]
      omega

theorem lo_spec : FnSpec Try.prog 29 loCon := by
  refine FnSpec.of_tri' (E := know [(39, validCon), (35, planCon), (36, orCon), (26, totalCon)] [] [] []) (know_ok (all_cons valid_spec (all_cons plan_spec (all_cons or_spec (all_cons ltotal_spec all_nil)))) all_nil all_nil) Try.func29 rfl rfl (by kernel_rfl) ?_
  intro C x hE hnl hfit hpre
  simp only [Try.ntmps29, Try.results29, maxLen, Nat.reduceSub, Nat.reducePow, Nat.reduceAdd, Int.cast_ofNat_Int, push_cast] at hnl hfit hpre ⊢
  obtain ⟨(a : List Int), (b : List Int), (p : List (List Int)), _⟩ := x
  dsimp only at hfit hpre ⊢
  rcases orV_lo a b p with ⟨e1, e2, e3, e0⟩ | ⟨e1, e0⟩
  · have hp := errPlan_in e3
    have hw : (p.getD 0 []).length = wid p := rfl
    have hpr := hp.rows
    have hpc := hp.cols
    have eL : ∀ h : LooseP a b p, errLo a b p = 0 := fun h => by rw [errLo, if_pos ⟨e1, e2, e3⟩, if_pos h]
    have eN : ¬ LooseP a b p → errLo a b p = 7 := fun h => by rw [errLo, if_pos ⟨e1, e2, e3⟩, if_neg h]
    replace hnl := And.intro hnl (And.intro e0 hw)
    by_cases hs : p.length = a.length ∧ wid p = b.length
    · obtain ⟨hs1, hs2⟩ := hs
      have hsum : ∀ i, i < p.length → ∀ m, InR (lsum ((p.getD i []).take m)) := fun i hi => row_sum hp hi
      repeat' (first|(refine goK (by assumption) ?_; iterate 4 (try clear hK K))|(refine tri_seqk fun K hK => ?_)|((first|refine tri_region hE rfl ?_|refine tri_ret ?_|((first|refine tri_drawP hE 1 rfl rfl (by kernel_rfl) ?_|refine tri_drawP hE 2 rfl rfl (by kernel_rfl) ?_|refine tri_drawP hE 3 rfl rfl (by kernel_rfl) ?_|refine tri_drawP hE 4 rfl rfl (by kernel_rfl) ?_); simp only [List.length_cons, List.length_nil, Nat.reduceAdd, Nat.reduceSub, List.take_succ_cons, List.take_zero, List.drop_succ_cons, List.drop_zero])); simp +contextual only [hnl, ↓kN, ↓kP, ↓kG, ↓qN, ↓qP, ↓qG, push_cast, Int.reduceEq, Int.reduceLT, Int.reduceLE, Int.reduceNeg, Nat.reduceLT, Nat.reduceLeDiff, Int.reduceToNat, Int.cast_ofNat_Int, Nat.reduceBEq, Nat.reduceMul, Nat.reduceEqDiff, reduceCtorEq, Nat.reduceAdd])|refine tri_block ?_|((first|refine tri_skip ?_|refine tri_exit ?_); simp only [thenQ, blockQ, if_true, if_false, Nat.reduceEqDiff, reduceCtorEq])|(refine tri_cond (by rfl) (fun hb => ?_) (fun hb => ?_) <;> (try simp only [decide_eq_true_eq, decide_eq_false_iff_not, Bool.not_eq_true', Bool.not_eq_false', reduceCtorEq, Bool.true_eq_false, Bool.false_eq_true] at hb) <;> (try omega))|refine tri_unk (by rfl) ?_ ?_|refine And.intro (by first|omega|(unfold InR; omega)|assumption|decide|exact ⟨_, _, rfl⟩) ?_|(refine ⟨fun hc => ?_, fun hc => ?_⟩)|(intro hc; try omega))
      refine tri_loopI (fun i : Nat => AS.of [(0, .one (.val (.sl .int) a)), (1, .one (.val (.sl .int) b)), (8, .one (.ref 42)), (43, .one (.val (.sl (.sl .int)) p)), (44, .I p.length), (45, .I i)] [(42, .flat 3 .int (colB p i 0))] []) (fun i => i ≤ p.length ∧ ∀ r, r < i → lsum (p.getD r []) ≤ a.getD r 0) (fun i => p.length - i) 0 ⟨Nat.zero_le _, by omega⟩ ?_ ?_
      · refine weak_of ?_ ?_ ?_ <;> simp only [push_cast, Int.reduceEq, Int.reduceLT, Int.reduceLE, Int.reduceNeg, Nat.reduceLT, Nat.reduceLeDiff, Int.reduceToNat, Int.cast_ofNat_Int, Nat.reduceBEq, Nat.reduceMul, Nat.reduceEqDiff, reduceCtorEq, Nat.reduceAdd]
        rw [colB_zero, hs2]
        exact .inl rfl
      intro i ⟨hi, hall⟩ K' hL
      rcases Nat.lt_or_ge i p.length with hip | hip
      · have hrow := hp.row hip
        have hsi := hsum i hip
        replace hnl := And.intro hnl (fun m => eq_true (hsi m))
        repeat' (first|(refine goK (by assumption) ?_; iterate 4 (try clear hK K))|(refine tri_seqk fun K hK => ?_)|((first|refine tri_region hE rfl ?_|refine tri_ret ?_|((first|refine tri_drawP hE 1 rfl rfl (by kernel_rfl) ?_|refine tri_drawP hE 2 rfl rfl (by kernel_rfl) ?_|refine tri_drawP hE 3 rfl rfl (by kernel_rfl) ?_|refine tri_drawP hE 4 rfl rfl (by kernel_rfl) ?_); simp only [List.length_cons, List.length_nil, Nat.reduceAdd, Nat.reduceSub, List.take_succ_cons, List.take_zero, List.drop_succ_cons, List.drop_zero])); simp +contextual only [hnl, ↓kN, ↓kP, ↓kG, ↓qN, ↓qP, ↓qG, push_cast, Int.reduceEq, Int.reduceLT, Int.reduceLE, Int.reduceNeg, Nat.reduceLT, Nat.reduceLeDiff, Int.reduceToNat, Int.cast_ofNat_Int, Nat.reduceBEq, Nat.reduceMul, Nat.reduceEqDiff, reduceCtorEq, Nat.reduceAdd])|refine tri_block ?_|((first|refine tri_skip ?_|refine tri_exit ?_); simp only [thenQ, blockQ, if_true, if_false, Nat.reduceEqDiff, reduceCtorEq])|(refine tri_cond (by rfl) (fun hb => ?_) (fun hb => ?_) <;> (try simp only [decide_eq_true_eq, decide_eq_false_iff_not, Bool.not_eq_true', Bool.not_eq_false', reduceCtorEq, Bool.true_eq_false, Bool.false_eq_true] at hb) <;> (try omega))|refine tri_unk (by rfl) ?_ ?_|refine And.intro (by first|omega|(unfold InR; omega)|assumption|decide|exact ⟨_, _, rfl⟩) ?_|(refine ⟨fun hc => ?_, fun hc => ?_⟩)|(intro hc; try omega))
        · exact (eN fun h => by have := h.ra i hip; omega).symm
        · refine tri_loopI (fun j : Nat => AS.of [(0, .one (.val (.sl .int) a)), (1, .one (.val (.sl .int) b)), (8, .one (.ref 42)), (9, .I i), (43, .one (.val (.sl (.sl .int)) p)), (44, .I p.length), (45, .I i), (57, .one (.val (.sl .int) (p.getD i []))), (58, .I (p.getD i []).length), (59, .I j)] [(42, .flat 3 .int (colB p i j))] []) (fun j => j ≤ wid p) (fun j => wid p - j) 0 (Nat.zero_le _) ?_ ?_
          · refine weak_of ?_ ?_ ?_ <;> simp only [push_cast, Int.reduceEq, Int.reduceLT, Int.reduceLE, Int.reduceNeg, Nat.reduceLT, Nat.reduceLeDiff, Int.reduceToNat, Int.cast_ofNat_Int, Nat.reduceBEq, Nat.reduceMul, Nat.reduceEqDiff, reduceCtorEq, Nat.reduceAdd]
            all_goals skip
          intro j hj K2 hL2
          have hcl := colB_len (p := p) i j
          rcases Nat.lt_or_ge j (wid p) with hjw | hjw
          · have k1 := colB_at (p := p) i j hjw
            rw [if_neg (Nat.lt_irrefl j)] at k1
            have k2 := cK_bnd hp i j hi hjw
            have k3 : 0 ≤ (p.getD i []).getD j 0 ∧ (p.getD i []).getD j 0 ≤ 150 := hp.at hip hjw
            have k4 := colB_step (i := i) hjw (x := (colB p i j).getD j 0 + (p.getD i []).getD j 0) rfl
            repeat' (first|(refine goK (by assumption) ?_; iterate 4 (try clear hK K))|(refine tri_seqk fun K hK => ?_)|((first|refine tri_region hE rfl ?_|refine tri_ret ?_|((first|refine tri_drawP hE 1 rfl rfl (by kernel_rfl) ?_|refine tri_drawP hE 2 rfl rfl (by kernel_rfl) ?_|refine tri_drawP hE 3 rfl rfl (by kernel_rfl) ?_|refine tri_drawP hE 4 rfl rfl (by kernel_rfl) ?_); simp only [List.length_cons, List.length_nil, Nat.reduceAdd, Nat.reduceSub, List.take_succ_cons, List.take_zero, List.drop_succ_cons, List.drop_zero])); simp +contextual only [hnl, ↓kN, ↓kP, ↓kG, ↓qN, ↓qP, ↓qG, push_cast, Int.reduceEq, Int.reduceLT, Int.reduceLE, Int.reduceNeg, Nat.reduceLT, Nat.reduceLeDiff, Int.reduceToNat, Int.cast_ofNat_Int, Nat.reduceBEq, Nat.reduceMul, Nat.reduceEqDiff, reduceCtorEq, Nat.reduceAdd])|refine tri_block ?_|((first|refine tri_skip ?_|refine tri_exit ?_); simp only [thenQ, blockQ, if_true, if_false, Nat.reduceEqDiff, reduceCtorEq])|(refine tri_cond (by rfl) (fun hb => ?_) (fun hb => ?_) <;> (try simp only [decide_eq_true_eq, decide_eq_false_iff_not, Bool.not_eq_true', Bool.not_eq_false', reduceCtorEq, Bool.true_eq_false, Bool.false_eq_true] at hb) <;> (try omega))|refine tri_unk (by rfl) ?_ ?_|refine And.intro (by first|omega|(unfold InR; omega)|assumption|decide|exact ⟨_, _, rfl⟩) ?_|(refine ⟨fun hc => ?_, fun hc => ?_⟩)|(intro hc; try omega))
            all_goals try rw [k4]
            all_goals refine hL2 _ (j + 1) (by omega) (by omega) ?_
            all_goals refine weak_of ?_ ?_ ?_ <;> simp only [push_cast, Int.reduceEq, Int.reduceLT, Int.reduceLE, Int.reduceNeg, Nat.reduceLT, Nat.reduceLeDiff, Int.reduceToNat, Int.cast_ofNat_Int, Nat.reduceBEq, Nat.reduceMul, Nat.reduceEqDiff, reduceCtorEq, Nat.reduceAdd]
            all_goals first | exact .inl rfl | skip
          · obtain rfl : j = wid p := by omega
            have k5 := colB_next (p := p) i
            repeat' (first|(refine goK (by assumption) ?_; iterate 4 (try clear hK K))|(refine tri_seqk fun K hK => ?_)|((first|refine tri_region hE rfl ?_|refine tri_ret ?_|((first|refine tri_drawP hE 1 rfl rfl (by kernel_rfl) ?_|refine tri_drawP hE 2 rfl rfl (by kernel_rfl) ?_|refine tri_drawP hE 3 rfl rfl (by kernel_rfl) ?_|refine tri_drawP hE 4 rfl rfl (by kernel_rfl) ?_); simp only [List.length_cons, List.length_nil, Nat.reduceAdd, Nat.reduceSub, List.take_succ_cons, List.take_zero, List.drop_succ_cons, List.drop_zero])); simp +contextual only [hnl, ↓kN, ↓kP, ↓kG, ↓qN, ↓qP, ↓qG, push_cast, Int.reduceEq, Int.reduceLT, Int.reduceLE, Int.reduceNeg, Nat.reduceLT, Nat.reduceLeDiff, Int.reduceToNat, Int.cast_ofNat_Int, Nat.reduceBEq, Nat.reduceMul, Nat.reduceEqDiff, reduceCtorEq, Nat.reduceAdd])|refine tri_block ?_|((first|refine tri_skip ?_|refine tri_exit ?_); simp only [thenQ, blockQ, if_true, if_false, Nat.reduceEqDiff, reduceCtorEq])|(refine tri_cond (by rfl) (fun hb => ?_) (fun hb => ?_) <;> (try simp only [decide_eq_true_eq, decide_eq_false_iff_not, Bool.not_eq_true', Bool.not_eq_false', reduceCtorEq, Bool.true_eq_false, Bool.false_eq_true] at hb) <;> (try omega))|refine tri_unk (by rfl) ?_ ?_|refine And.intro (by first|omega|(unfold InR; omega)|assumption|decide|exact ⟨_, _, rfl⟩) ?_|(refine ⟨fun hc => ?_, fun hc => ?_⟩)|(intro hc; try omega))
            refine hL _ (i + 1) ⟨by omega, fun r hr => ?_⟩ (by omega) ?_
            · rcases Nat.lt_or_ge r i with h | h
              · exact hall r h
              · obtain rfl : r = i := by omega
                omega
            refine weak_of ?_ ?_ ?_ <;> simp only [push_cast, Int.reduceEq, Int.reduceLT, Int.reduceLE, Int.reduceNeg, Nat.reduceLT, Nat.reduceLeDiff, Int.reduceToNat, Int.cast_ofNat_Int, Nat.reduceBEq, Nat.reduceMul, Nat.reduceEqDiff, reduceCtorEq, Nat.reduceAdd]
            rw [k5]
            exact .inl rfl
      · obtain rfl : i = p.length := by omega
        have hcl := colB_len (p := p) p.length 0
        repeat' (first|(refine goK (by assumption) ?_; iterate 4 (try clear hK K))|(refine tri_seqk fun K hK => ?_)|((first|refine tri_region hE rfl ?_|refine tri_ret ?_|((first|refine tri_drawP hE 1 rfl rfl (by kernel_rfl) ?_|refine tri_drawP hE 2 rfl rfl (by kernel_rfl) ?_|refine tri_drawP hE 3 rfl rfl (by kernel_rfl) ?_|refine tri_drawP hE 4 rfl rfl (by kernel_rfl) ?_); simp only [List.length_cons, List.length_nil, Nat.reduceAdd, Nat.reduceSub, List.take_succ_cons, List.take_zero, List.drop_succ_cons, List.drop_zero])); simp +contextual only [hnl, ↓kN, ↓kP, ↓kG, ↓qN, ↓qP, ↓qG, push_cast, Int.reduceEq, Int.reduceLT, Int.reduceLE, Int.reduceNeg, Nat.reduceLT, Nat.reduceLeDiff, Int.reduceToNat, Int.cast_ofNat_Int, Nat.reduceBEq, Nat.reduceMul, Nat.reduceEqDiff, reduceCtorEq, Nat.reduceAdd])|refine tri_block ?_|((first|refine tri_skip ?_|refine tri_exit ?_); simp only [thenQ, blockQ, if_true, if_false, Nat.reduceEqDiff, reduceCtorEq])|(refine tri_cond (by rfl) (fun hb => ?_) (fun hb => ?_) <;> (try simp only [decide_eq_true_eq, decide_eq_false_iff_not, Bool.not_eq_true', Bool.not_eq_false', reduceCtorEq, Bool.true_eq_false, Bool.false_eq_true] at hb) <;> (try omega))|refine tri_unk (by rfl) ?_ ?_|refine And.intro (by first|omega|(unfold InR; omega)|assumption|decide|exact ⟨_, _, rfl⟩) ?_|(refine ⟨fun hc => ?_, fun hc => ?_⟩)|(intro hc; try omega))
        refine tri_loopI (fun k : Nat => AS.of [(1, .one (.val (.sl .int) b)), (73, .one (.ref 42)), (74, .I (colB p p.length 0).length), (75, .I k)] [(42, .flat 3 .int (colB p p.length 0))] []) (fun k => k ≤ wid p ∧ ∀ j, j < k → cK p p.length j ≤ b.getD j 0) (fun k => wid p - k) 0 ⟨Nat.zero_le _, by omega⟩ ?_ ?_
        · refine weak_of ?_ ?_ ?_ <;> simp only [push_cast, Int.reduceEq, Int.reduceLT, Int.reduceLE, Int.reduceNeg, Nat.reduceLT, Nat.reduceLeDiff, Int.reduceToNat, Int.cast_ofNat_Int, Nat.reduceBEq, Nat.reduceMul, Nat.reduceEqDiff, reduceCtorEq, Nat.reduceAdd]
          all_goals skip
        intro k ⟨hk, hal2⟩ K3 hL3
        rcases Nat.lt_or_ge k (wid p) with hkw | hkw
        · have k1 := colB_at (p := p) p.length 0 hkw
          rw [if_neg (Nat.not_lt_zero _), Int.add_zero] at k1
          repeat' (first|(refine goK (by assumption) ?_; iterate 4 (try clear hK K))|(refine tri_seqk fun K hK => ?_)|((first|refine tri_region hE rfl ?_|refine tri_ret ?_|((first|refine tri_drawP hE 1 rfl rfl (by kernel_rfl) ?_|refine tri_drawP hE 2 rfl rfl (by kernel_rfl) ?_|refine tri_drawP hE 3 rfl rfl (by kernel_rfl) ?_|refine tri_drawP hE 4 rfl rfl (by kernel_rfl) ?_); simp only [List.length_cons, List.length_nil, Nat.reduceAdd, Nat.reduceSub, List.take_succ_cons, List.take_zero, List.drop_succ_cons, List.drop_zero])); simp +contextual only [hnl, ↓kN, ↓kP, ↓kG, ↓qN, ↓qP, ↓qG, push_cast, Int.reduceEq, Int.reduceLT, Int.reduceLE, Int.reduceNeg, Nat.reduceLT, Nat.reduceLeDiff, Int.reduceToNat, Int.cast_ofNat_Int, Nat.reduceBEq, Nat.reduceMul, Nat.reduceEqDiff, reduceCtorEq, Nat.reduceAdd])|refine tri_block ?_|((first|refine tri_skip ?_|refine tri_exit ?_); simp only [thenQ, blockQ, if_true, if_false, Nat.reduceEqDiff, reduceCtorEq])|(refine tri_cond (by rfl) (fun hb => ?_) (fun hb => ?_) <;> (try simp only [decide_eq_true_eq, decide_eq_false_iff_not, Bool.not_eq_true', Bool.not_eq_false', reduceCtorEq, Bool.true_eq_false, Bool.false_eq_true] at hb) <;> (try omega))|refine tri_unk (by rfl) ?_ ?_|refine And.intro (by first|omega|(unfold InR; omega)|assumption|decide|exact ⟨_, _, rfl⟩) ?_|(refine ⟨fun hc => ?_, fun hc => ?_⟩)|(intro hc; try omega))
          · exact (eN fun h => by have := h.cb k hkw; omega).symm
          · refine hL3 _ (k + 1) ⟨by omega, fun j hj => ?_⟩ (by omega) ?_
            · rcases Nat.lt_or_ge j k with h | h
              · exact hal2 j h
              · obtain rfl : j = k := by omega
                omega
            refine weak_of ?_ ?_ ?_ <;> simp only [push_cast, Int.reduceEq, Int.reduceLT, Int.reduceLE, Int.reduceNeg, Nat.reduceLT, Nat.reduceLeDiff, Int.reduceToNat, Int.cast_ofNat_Int, Nat.reduceBEq, Nat.reduceMul, Nat.reduceEqDiff, reduceCtorEq, Nat.reduceAdd]
        · obtain rfl : k = wid p := by omega
          repeat' (first|(refine goK (by assumption) ?_; iterate 4 (try clear hK K))|(refine tri_seqk fun K hK => ?_)|((first|refine tri_region hE rfl ?_|refine tri_ret ?_|((first|refine tri_drawP hE 1 rfl rfl (by kernel_rfl) ?_|refine tri_drawP hE 2 rfl rfl (by kernel_rfl) ?_|refine tri_drawP hE 3 rfl rfl (by kernel_rfl) ?_|refine tri_drawP hE 4 rfl rfl (by kernel_rfl) ?_); simp only [List.length_cons, List.length_nil, Nat.reduceAdd, Nat.reduceSub, List.take_succ_cons, List.take_zero, List.drop_succ_cons, List.drop_zero])); simp +contextual only [hnl, ↓kN, ↓kP, ↓kG, ↓qN, ↓qP, ↓qG, push_cast, Int.reduceEq, Int.reduceLT, Int.reduceLE, Int.reduceNeg, Nat.reduceLT, Nat.reduceLeDiff, Int.reduceToNat, Int.cast_ofNat_Int, Nat.reduceBEq, Nat.reduceMul, Nat.reduceEqDiff, reduceCtorEq, Nat.reduceAdd])|refine tri_block ?_|((first|refine tri_skip ?_|refine tri_exit ?_); simp only [thenQ, blockQ, if_true, if_false, Nat.reduceEqDiff, reduceCtorEq])|(refine tri_cond (by rfl) (fun hb => ?_) (fun hb => ?_) <;> (try simp only [decide_eq_true_eq, decide_eq_false_iff_not, Bool.not_eq_true', Bool.not_eq_false', reduceCtorEq, Bool.true_eq_false, Bool.false_eq_true] at hb) <;> (try omega))|refine tri_unk (by rfl) ?_ ?_|refine And.intro (by first|omega|(unfold InR; omega)|assumption|decide|exact ⟨_, _, rfl⟩) ?_|(refine ⟨fun hc => ?_, fun hc => ?_⟩)|(intro hc; try omega))
          exact (eL ⟨hs1, hs2, fun i hi => hall i hi, fun k hk => hal2 k hk⟩).symm
    · repeat' (first|(refine goK (by assumption) ?_; iterate 4 (try clear hK K))|(refine tri_seqk fun K hK => ?_)|((first|refine tri_region hE rfl ?_|refine tri_ret ?_|((first|refine tri_drawP hE 1 rfl rfl (by kernel_rfl) ?_|refine tri_drawP hE 2 rfl rfl (by kernel_rfl) ?_|refine tri_drawP hE 3 rfl rfl (by kernel_rfl) ?_|refine tri_drawP hE 4 rfl rfl (by kernel_rfl) ?_); simp only [List.length_cons, List.length_nil, Nat.reduceAdd, Nat.reduceSub, List.take_succ_cons, List.take_zero, List.drop_succ_cons, List.drop_zero])); simp +contextual only [hnl, ↓kN, ↓kP, ↓kG, ↓qN, ↓qP, ↓qG, push_cast, Int.reduceEq, Int.reduceLT, Int.reduceLE, Int.reduceNeg, Nat.reduceLT, Nat.reduceLeDiff, Int.reduceToNat, Int.cast_ofNat_Int, Nat.reduceBEq, Nat.reduceMul, Nat.reduceEqDiff, reduceCtorEq, Nat.reduceAdd])|refine tri_block ?_|((first|refine tri_skip ?_|refine tri_exit ?_); simp only [thenQ, blockQ, if_true, if_false, Nat.reduceEqDiff, reduceCtorEq])|(refine tri_cond (by rfl) (fun hb => ?_) (fun hb => ?_) <;> (try simp only [decide_eq_true_eq, decide_eq_false_iff_not, Bool.not_eq_true', Bool.not_eq_false', reduceCtorEq, Bool.true_eq_false, Bool.false_eq_true] at hb) <;> (try omega))|refine tri_unk (by rfl) ?_ ?_|refine And.intro (by first|omega|(unfold InR; omega)|assumption|decide|exact ⟨_, _, rfl⟩) ?_|(refine ⟨fun hc => ?_, fun hc => ?_⟩)|(intro hc; try omega))
      all_goals first | exact (eN fun h => hs ⟨h.rows, h.cols⟩).symm | skip
      done
  · replace hnl := And.intro hnl (And.intro e1 e0)
    repeat' (first|(refine goK (by assumption) ?_; iterate 4 (try clear hK K))|(refine tri_seqk fun K hK => ?_)|((first|refine tri_region hE rfl ?_|refine tri_ret ?_|((first|refine tri_drawP hE 1 rfl rfl (by kernel_rfl) ?_|refine tri_drawP hE 2 rfl rfl (by kernel_rfl) ?_|refine tri_drawP hE 3 rfl rfl (by kernel_rfl) ?_|refine tri_drawP hE 4 rfl rfl (by kernel_rfl) ?_); simp only [List.length_cons, List.length_nil, Nat.reduceAdd, Nat.reduceSub, List.take_succ_cons, List.take_zero, List.drop_succ_cons, List.drop_zero])); simp +contextual only [hnl, ↓kN, ↓kP, ↓kG, ↓qN, ↓qP, ↓qG, push_cast, Int.reduceEq, Int.reduceLT, Int.reduceLE, Int.reduceNeg, Nat.reduceLT, Nat.reduceLeDiff, Int.reduceToNat, Int.cast_ofNat_Int, Nat.reduceBEq, Nat.reduceMul, Nat.reduceEqDiff, reduceCtorEq, Nat.reduceAdd])|refine tri_block ?_|((first|refine tri_skip ?_|refine tri_exit ?_); simp only [thenQ, blockQ, if_true, if_false, Nat.reduceEqDiff, reduceCtorEq])|(refine tri_cond (by rfl) (fun hb => ?_) (fun hb => ?_) <;> (try simp only [decide_eq_true_eq, decide_eq_false_iff_not, Bool.not_eq_true', Bool.not_eq_false', reduceCtorEq, Bool.true_eq_false, Bool.false_eq_true] at hb) <;> (try omega))|refine tri_unk (by rfl) ?_ ?_|refine And.intro (by first|omega|(unfold InR; omega)|assumption|decide|exact ⟨_, _, rfl⟩) ?_|(refine ⟨fun hc => ?_, fun hc => ?_⟩)|(intro hc; try omega))
    all_goals skip
end Go.Proofs.Ytogopoiohckpdae
