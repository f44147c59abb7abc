/- Two plans glued together. Conditions: in each contract. -/
import Derived.Test.YtloipnalmkdldaaFt
import Derived.Test.YtloipnalmkdldaaFn
import Derived.Test.YtloipnalmkdldaaFo
namespace Go.Proofs.Ytloipnalmkdldaa
open Go.RowKit Go.VS
set_option linter.unusedSimpArgs false
set_option linter.unusedVariables false

def gmid (p : List (List Int)) (j : Nat) : Nat := (colP p j).toNat
def gden (p : List (List Int)) : Nat → Nat
  | 0 => 1
  | j + 1 => if 0 < gmid p j then gden p j * gmid p j else gden p j
def gnum (p q : List (List Int)) (i k : Nat) : Nat → Nat
  | 0 => 0
  | j + 1 => if 0 < gmid p j then gnum p q i k j * gmid p j + (cell p i j).toNat * (cell q j k).toNat * gden p j else gnum p q i k j
def glueT (p q : List (List Int)) : List (List Rt) := tbl p.length fun i => tbl (wid q) fun k => rat (gnum p q i k (wid p)) (gden p (wid p))
def errGlue (p q : List (List Int)) : Int := if errPlan p = 0 then if errPlan q = 0 then if colsP p = rowsP q then 0 else 5 else 1 else 1

@[push_cast] def glueCon : Con := ⟨[.dat (.sl (.sl .int)), .dat (.sl (.sl .int))], fun _ => True, fun (x : List (List Int) × List (List Int) × Unit) =>
  { res := [.own (.deep 48 50 (.prod .int .int) (if errGlue x.1 x.2.1 = 0 then glueT x.1 x.2.1 else [])), .val .int (errGlue x.1 x.2.1)] }⟩

section
variable {p q : List (List Int)} {i j k : Nat}
theorem errGlue_p (h : ¬ errPlan p = 0) : errPlan p = errGlue p q := by
  unfold errGlue
  rw [if_neg h]
  exact (errPlan_01 p).resolve_left h
theorem errGlue_q (h1 : errPlan p = 0) (h : ¬ errPlan q = 0) : errPlan q = errGlue p q := by
  unfold errGlue
  rw [if_pos h1, if_neg h]
  exact (errPlan_01 q).resolve_left h
theorem errGlue_5 (h1 : errPlan p = 0) (h2 : errPlan q = 0) (h : ¬ colsP p = rowsP q) : errGlue p q = 5 := by
  unfold errGlue
  rw [if_pos h1, if_pos h2, if_neg h]
theorem errGlue_0 (h1 : errPlan p = 0) (h2 : errPlan q = 0) (h : colsP p = rowsP q) : errGlue p q = 0 := by
  unfold errGlue
  rw [if_pos h1, if_pos h2, if_pos h]
theorem errGlue_in (h : errGlue p q = 0) : InPlan p ∧ InPlan q ∧ colsP p = rowsP q := by
  unfold errGlue at h
  split at h
  · split at h
    · split at h
      · exact ⟨errPlan_in (by assumption), errPlan_in (by assumption), by assumption⟩
      · simp at h
    · simp at h
  · simp at h

theorem gden_pos : ∀ j, 0 < gden p j
  | 0 => Nat.one_pos
  | j + 1 => by
    have := gden_pos j
    simp only [gden]
    split
    · exact Nat.mul_pos this (by assumption)
    · exact this

theorem gden_le (hb : ∀ c, c < j → gmid p c ≤ 750) : gden p j ≤ 750 ^ j := by
  induction j with
  | zero => exact Nat.le_refl _
  | succ j ih =>
    have h1 := ih (fun c hc => hb c (by omega))
    have h2 := hb j (by omega)
    simp only [gden, Nat.pow_succ]
    split
    · exact Nat.mul_le_mul h1 h2
    · have : 0 < 750 ^ j := Nat.pos_of_ne_zero (by simp)
      omega

theorem gnum_le (hb : ∀ c, c < j → (cell p i c).toNat ≤ 150 ∧ (cell q c k).toNat ≤ gmid p c) : gnum p q i k j ≤ 150 * j * gden p j := by
  induction j with
  | zero => exact Nat.le_refl _
  | succ j ih =>
    have h1 := ih (fun c hc => hb c (by omega))
    obtain ⟨h2, h3⟩ := hb j (by omega)
    simp only [gnum, gden]
    split
    · have k1 : gnum p q i k j * gmid p j ≤ 150 * j * gden p j * gmid p j := Nat.mul_le_mul_right _ h1
      have k2 : (cell p i j).toNat * (cell q j k).toNat * gden p j ≤ 150 * gmid p j * gden p j := Nat.mul_le_mul_right _ (Nat.mul_le_mul h2 h3)
      have k3 : 150 * (j + 1) * (gden p j * gmid p j) = 150 * j * gden p j * gmid p j + 150 * gmid p j * gden p j := by
        rw [Nat.mul_add, Nat.add_mul, Nat.mul_one, Nat.mul_assoc (150 * j), Nat.mul_comm (gden p j) (gmid p j), Nat.mul_assoc 150 (gmid p j), Nat.mul_assoc 150]
      omega
    · have : 150 * j * gden p j ≤ 150 * (j + 1) * gden p j := Nat.mul_le_mul_right _ (by omega)
      omega

theorem addPre_rat {N1 L1 N2 L2 : Nat} (h1 : 0 < L1) (h2 : 0 < L2) (hN : N1 * L2 + N2 * L1 ≤ 9223372036854775807) (hL : L1 * L2 ≤ 9223372036854775807) : AddPre (rat N1 L1) (rat N2 L2) := by
  obtain ⟨g1, n1, d1, hg1, hd1, rfl, rfl, e1⟩ := rat_parts N1 L1 h1
  obtain ⟨g2, n2, d2, hg2, hd2, rfl, rfl, e2⟩ := rat_parts N2 L2 h2
  have a1 : n1 ≤ g1 * n1 := Nat.le_mul_of_pos_left _ hg1
  have a2 : n2 ≤ g2 * n2 := Nat.le_mul_of_pos_left _ hg2
  have b1 : d1 ≤ g1 * d1 := Nat.le_mul_of_pos_left _ hg1
  have b2 : d2 ≤ g2 * d2 := Nat.le_mul_of_pos_left _ hg2
  exact ⟨n1, d1, n2, d2, e1, e2, hd1, hd2, Nat.le_trans (Nat.add_le_add (Nat.mul_le_mul a1 b2) (Nat.mul_le_mul a2 b1)) hN, Nat.le_trans (Nat.mul_le_mul b1 b2) hL⟩

theorem addPreG_of {a b : Rt} (h : AddPre a b) : AddPreG a b := by
  obtain ⟨n1, d1, n2, d2, e1, e2, h1, h2, h3, h4⟩ := h
  refine ⟨n1, d1, n2, d2, e1, e2, h1, h2, ?_, ?_, ?_, ?_⟩
  · exact Nat.le_trans (Nat.le_mul_of_pos_right _ h2) h4
  · exact Nat.le_trans (Nat.le_mul_of_pos_left _ h1) h4
  · exact Nat.le_trans (Nat.add_le_add (Nat.mul_le_mul_left _ (Nat.div_le_self _ _)) (Nat.mul_le_mul_left _ (Nat.div_le_self _ _))) h3
  · exact Nat.le_trans (Nat.mul_le_mul_right _ (Nat.div_le_self _ _)) h4

theorem glue_step (hp : 0 ≤ cell p i j) (hq : 0 ≤ cell q j k) (hM : 0 < gmid p j) : addF (rat (gnum p q i k j) (gden p j)) (rat (cell p i j * cell q j k).toNat (colP p j).toNat) = rat (gnum p q i k (j + 1)) (gden p (j + 1)) := by
  have e : (colP p j).toNat = gmid p j := rfl
  rw [e, addF_rat (gden_pos j) hM, Int.toNat_mul hp hq]
  simp only [gnum, gden]
  rw [if_pos hM, if_pos hM]
theorem glue_skip (hM : ¬ 0 < gmid p j) : rat (gnum p q i k (j + 1)) (gden p (j + 1)) = rat (gnum p q i k j) (gden p j) := by
  simp only [gnum, gden]
  rw [if_neg hM, if_neg hM]

/-- What is told of the number in the middle. -/
structure Mid (p q : List (List Int)) (i j k : Nat) : Prop where
  p0 : 0 ≤ cell p i j ∧ cell p i j ≤ 150
  q0 : 0 ≤ cell q j k ∧ cell q j k ≤ 150
  c0 : 0 ≤ colP p j ∧ colP p j ≤ 750
  le : cell q j k ≤ colP p j
  lep : cell p i j ≤ colP p j

theorem lsum_ge : ∀ (l : List Int), (∀ x ∈ l, 0 ≤ x) → 0 ≤ lsum l ∧ ∀ j, j < l.length → l.getD j 0 ≤ lsum l
  | [], _ => ⟨Int.le_refl _, fun _ h => by simp at h⟩
  | x :: l, hx => by
    obtain ⟨h1, h2⟩ := lsum_ge l (fun y hy => hx y (by simp [hy]))
    have h3 := hx x (by simp)
    refine ⟨by simp only [lsum]; omega, fun j hj => ?_⟩
    cases j with
    | zero => simp only [List.getD_cons_zero, lsum]; omega
    | succ j =>
      have := h2 j (by simpa using hj)
      simp only [List.getD_cons_succ, lsum]
      omega

theorem mid_of (h : errGlue p q = 0) (hi : i < p.length) (hj : j < wid p) (hk : k < wid q) : Mid p q i j k := by
  obtain ⟨ip, iq, he⟩ := errGlue_in h
  have hql : wid p = q.length := by
    have := congrArg List.length he
    simpa [colsP, tbl_len, rowsP] using this
  have hc := ip.sumC hj p.length
  rw [List.take_of_length_le (Nat.le_refl _)] at hc
  have e : colP p j = lsum (q.getD j []) := by
    have h1 : (colsP p).getD j 0 = colP p j := tbl_get _ _ hj
    rw [← h1, he]
    simp [rowsP, List.getD_eq_getElem?_getD, show j < q.length by omega]
  refine ⟨ip.at hi hj, iq.at (by omega) hk, hc, ?_, ?_⟩
  · rw [e]
    exact (lsum_ge (q.getD j []) fun x hx => (iq.mem _ (getD_mem [] (by omega)) x hx).1).2 k (by rw [iq.row (by omega)]; exact hk)
  · have := (lsum_ge (p.map fun r => r.getD j 0) fun x hx => by
      obtain ⟨r, hr, rfl⟩ := List.mem_map.1 hx
      exact (ip.mem r hr _ (getD_mem 0 (by rw [ip.len r hr]; exact hj))).1).2 i (by simpa using hi)
    have e3 : (p.map fun r => r.getD j 0).getD i 0 = cell p i j := by simp [cell, List.getD_eq_getElem?_getD, hi]
    rwa [e3] at this

theorem glue_pre (h : errGlue p q = 0) (hi : i < p.length) (hj : j < wid p) (hk : k < wid q) (hM : 0 < colP p j) : AddPre (rat (gnum p q i k j) (gden p j)) (rat (cell p i j * cell q j k).toNat (colP p j).toNat) := by
  obtain ⟨ip, iq, he⟩ := errGlue_in h
  have hw := ip.cols
  have m := mid_of h hi hj hk
  have hb : ∀ c, c < j → gmid p c ≤ 750 := fun c hc => by
    have := (mid_of h hi (show c < wid p by omega) hk).c0
    unfold gmid
    omega
  have h1 := gden_le hb
  have h2 := gnum_le (p := p) (q := q) (i := i) (k := k) (j := j) fun c hc => by
    have m := mid_of h hi (show c < wid p by omega) hk
    have a1 := m.p0
    have a2 := m.q0
    have a3 := m.c0
    have a4 := m.le
    unfold gmid
    omega
  have h3 : (750 : Nat) ^ j ≤ 750 ^ 4 := Nat.pow_le_pow_right (by omega) (by omega)
  have h4 : gden p j ≤ 316406250000 := by omega
  have h5 : 150 * j * gden p j ≤ 600 * 316406250000 := Nat.mul_le_mul (by omega) h4
  have a1 := m.p0
  have a2 := m.q0
  have a3 := m.c0
  have h6 : (colP p j).toNat ≤ 750 := by omega
  have h7 : (cell p i j * cell q j k).toNat ≤ 150 * 150 := by
    rw [Int.toNat_mul a1.1 a2.1]
    exact Nat.mul_le_mul (by omega) (by omega)
  have k1 : gnum p q i k j * (colP p j).toNat ≤ 600 * 316406250000 * 750 := Nat.mul_le_mul (by omega) h6
  have k2 : (cell p i j * cell q j k).toNat * gden p j ≤ 150 * 150 * 316406250000 := Nat.mul_le_mul h7 h4
  have k3 : gden p j * (colP p j).toNat ≤ 316406250000 * 750 := Nat.mul_le_mul h4 h6
  exact addPre_rat (gden_pos j) (by omega) (by omega) (by omega)
end

theorem glue_spec : FnSpec Try.prog 25 glueCon := by
  refine FnSpec.of_tri' (E := know [(22, planCon), (37, endsCon), (38, equalCon), (45, ratioCon), (44, addCon)] [] [] []) (know_ok (all_cons plan_spec (all_cons ends_spec (all_cons equal_spec (all_cons ratio_spec (all_cons add_spec all_nil))))) all_nil all_nil) Try.func25 rfl rfl (by kernel_rfl) ?_
  intro C x hE hnl hfit hpre
  simp only [Try.ntmps25, Try.results25, maxLen, Nat.reduceSub, Nat.reducePow, Nat.reduceAdd, Int.cast_ofNat_Int, push_cast] at hnl hfit hpre ⊢
  obtain ⟨(p : List (List Int)), (q : List (List Int)), _⟩ := x
  dsimp only at hfit hpre ⊢
  by_cases hp : errPlan p = 0
  · by_cases hq : errPlan q = 0
    · have ip := errPlan_in hp
      have iq := errPlan_in hq
      have r1 := ip.rows
      have r2 := iq.rows
      have r3 := ip.cols
      have r4 := iq.cols
      have w2 : (q.getD 0 []).length = wid q := rfl
      by_cases hs : colsP p = rowsP q
      · have he := errGlue_0 hp hq hs
        have hql : wid p = q.length := by
          have := congrArg List.length hs
          simpa [colsP, tbl_len, rowsP] using this
        have clen : (colsP p).length = wid p := tbl_len _ _
        replace hnl := And.intro hnl (And.intro hp (And.intro hq (And.intro w2 (And.intro he (And.intro clen (eq_true hs))))))
        repeat' (first|(refine goK (by assumption) ?_; iterate 4 (try clear hK K))|(refine tri_seqk fun K hK => ?_)|((first|refine tri_region hE rfl ?_|refine tri_ret ?_|((first|refine tri_drawP hE 1 rfl rfl (by kernel_rfl) ?_|refine tri_drawP hE 2 rfl rfl (by kernel_rfl) ?_|refine tri_drawP hE 3 rfl rfl (by kernel_rfl) ?_|refine tri_drawP hE 4 rfl rfl (by kernel_rfl) ?_); simp only [List.length_cons, List.length_nil, Nat.reduceAdd, Nat.reduceSub, List.take_succ_cons, List.take_zero, List.drop_succ_cons, List.drop_zero])); simp +contextual only [hnl, ↓kN, ↓kP, ↓kG, ↓qN, ↓qP, ↓qG, push_cast, Int.reduceEq, Int.reduceLT, Int.reduceLE, Int.reduceNeg, Nat.reduceLT, Nat.reduceLeDiff, Int.reduceToNat, Int.cast_ofNat_Int, Nat.reduceBEq, Nat.reduceMul, Nat.reduceEqDiff, reduceCtorEq, Nat.reduceAdd])|refine tri_block ?_|((first|refine tri_skip ?_|refine tri_exit ?_); simp only [thenQ, blockQ, if_true, if_false, Nat.reduceEqDiff, reduceCtorEq])|(refine tri_cond (by rfl) (fun hb => ?_) (fun hb => ?_) <;> (try simp only [decide_eq_true_eq, decide_eq_false_iff_not, Bool.not_eq_true', Bool.not_eq_false', reduceCtorEq, Bool.true_eq_false, Bool.false_eq_true] at hb) <;> (try omega))|refine tri_unk (by rfl) ?_ ?_|refine And.intro (by first|omega|(unfold InR; omega)|assumption|decide|exact ⟨_, _, rfl⟩) ?_|(refine ⟨fun hc => ?_, fun hc => ?_⟩)|(intro hc; try omega))
        refine tri_loopI (fun i : Nat => AS.of [(0, .one (.val (.sl (.sl .int)) p)), (1, .one (.val (.sl (.sl .int)) q)), (9, .one (.ref 1031)), (12, .one (.ref 93)), (44, .I p.length), (45, .I i)]
          [(1031, .flat 3 .int (colsP p)), (93, .deep 48 50 (.prod .int .int) (tbl i fun i => tbl (wid q) fun k => rat (gnum p q i k (wid p)) (gden p (wid p))))] []) (fun i => i ≤ p.length) (fun i => p.length - i) 0 (Nat.zero_le _) ?_ ?_
        · refine weak_of ?_ ?_ ?_ <;> simp only [push_cast, Int.reduceEq, Int.reduceLT, Int.reduceLE, Int.reduceNeg, Nat.reduceLT, Nat.reduceLeDiff, Int.reduceToNat, Int.cast_ofNat_Int, Nat.reduceBEq, Nat.reduceMul, Nat.reduceEqDiff, reduceCtorEq, Nat.reduceAdd]
          exact ⟨by omega, tbl_zero _⟩
        intro i hi K' hL
        replace hnl := And.intro hnl (tbl_len i fun i => tbl (wid q) fun k => rat (gnum p q i k (wid p)) (gden p (wid p)))
        by_cases hi' : i < p.length
        · have hpi := ip.row hi'
          repeat' (first|(refine goK (by assumption) ?_; iterate 4 (try clear hK K))|(refine tri_seqk fun K hK => ?_)|((first|refine tri_region hE rfl ?_|refine tri_ret ?_|((first|refine tri_drawP hE 1 rfl rfl (by kernel_rfl) ?_|refine tri_drawP hE 2 rfl rfl (by kernel_rfl) ?_|refine tri_drawP hE 3 rfl rfl (by kernel_rfl) ?_|refine tri_drawP hE 4 rfl rfl (by kernel_rfl) ?_); simp only [List.length_cons, List.length_nil, Nat.reduceAdd, Nat.reduceSub, List.take_succ_cons, List.take_zero, List.drop_succ_cons, List.drop_zero])); simp +contextual only [hnl, ↓kN, ↓kP, ↓kG, ↓qN, ↓qP, ↓qG, push_cast, Int.reduceEq, Int.reduceLT, Int.reduceLE, Int.reduceNeg, Nat.reduceLT, Nat.reduceLeDiff, Int.reduceToNat, Int.cast_ofNat_Int, Nat.reduceBEq, Nat.reduceMul, Nat.reduceEqDiff, reduceCtorEq, Nat.reduceAdd])|refine tri_block ?_|((first|refine tri_skip ?_|refine tri_exit ?_); simp only [thenQ, blockQ, if_true, if_false, Nat.reduceEqDiff, reduceCtorEq])|(refine tri_cond (by rfl) (fun hb => ?_) (fun hb => ?_) <;> (try simp only [decide_eq_true_eq, decide_eq_false_iff_not, Bool.not_eq_true', Bool.not_eq_false', reduceCtorEq, Bool.true_eq_false, Bool.false_eq_true] at hb) <;> (try omega))|refine tri_unk (by rfl) ?_ ?_|refine And.intro (by first|omega|(unfold InR; omega)|assumption|decide|exact ⟨_, _, rfl⟩) ?_|(refine ⟨fun hc => ?_, fun hc => ?_⟩)|(intro hc; try omega))
          refine tri_loopI (fun k : Nat => AS.of [(0, .one (.val (.sl (.sl .int)) p)), (1, .one (.val (.sl (.sl .int)) q)), (9, .one (.ref 1031)), (12, .one (.ref 93)), (13, .I i), (14, .one (.ref 88)), (44, .I p.length), (45, .I i), (51, .I (wid q)), (52, .I k)]
            [(1031, .flat 3 .int (colsP p)), (93, .deep 48 50 (.prod .int .int) (tbl i fun i => tbl (wid q) fun k => rat (gnum p q i k (wid p)) (gden p (wid p)))), (88, .flat 50 (.prod .int .int) (tbl k fun k => rat (gnum p q i k (wid p)) (gden p (wid p))))] []) (fun k => k ≤ wid q) (fun k => wid q - k) 0 (Nat.zero_le _) ?_ ?_
          · refine weak_of ?_ ?_ ?_ <;> simp only [push_cast, Int.reduceEq, Int.reduceLT, Int.reduceLE, Int.reduceNeg, Nat.reduceLT, Nat.reduceLeDiff, Int.reduceToNat, Int.cast_ofNat_Int, Nat.reduceBEq, Nat.reduceMul, Nat.reduceEqDiff, reduceCtorEq, Nat.reduceAdd]
            exact ⟨by omega, tbl_zero _⟩
          intro k hk K2 hL2
          replace hnl := And.intro hnl (And.intro hpi (tbl_len k fun k => rat (gnum p q i k (wid p)) (gden p (wid p))))
          by_cases hk' : k < wid q
          · repeat' (first|(refine goK (by assumption) ?_; iterate 4 (try clear hK K))|(refine tri_seqk fun K hK => ?_)|((first|refine tri_region hE rfl ?_|refine tri_ret ?_|((first|refine tri_drawP hE 1 rfl rfl (by kernel_rfl) ?_|refine tri_drawP hE 2 rfl rfl (by kernel_rfl) ?_|refine tri_drawP hE 3 rfl rfl (by kernel_rfl) ?_|refine tri_drawP hE 4 rfl rfl (by kernel_rfl) ?_); simp only [List.length_cons, List.length_nil, Nat.reduceAdd, Nat.reduceSub, List.take_succ_cons, List.take_zero, List.drop_succ_cons, List.drop_zero])); simp +contextual only [hnl, ↓kN, ↓kP, ↓kG, ↓qN, ↓qP, ↓qG, push_cast, Int.reduceEq, Int.reduceLT, Int.reduceLE, Int.reduceNeg, Nat.reduceLT, Nat.reduceLeDiff, Int.reduceToNat, Int.cast_ofNat_Int, Nat.reduceBEq, Nat.reduceMul, Nat.reduceEqDiff, reduceCtorEq, Nat.reduceAdd])|refine tri_block ?_|((first|refine tri_skip ?_|refine tri_exit ?_); simp only [thenQ, blockQ, if_true, if_false, Nat.reduceEqDiff, reduceCtorEq])|(refine tri_cond (by rfl) (fun hb => ?_) (fun hb => ?_) <;> (try simp only [decide_eq_true_eq, decide_eq_false_iff_not, Bool.not_eq_true', Bool.not_eq_false', reduceCtorEq, Bool.true_eq_false, Bool.false_eq_true] at hb) <;> (try omega))|refine tri_unk (by rfl) ?_ ?_|refine And.intro (by first|omega|(unfold InR; omega)|assumption|decide|exact ⟨_, _, rfl⟩) ?_|(refine ⟨fun hc => ?_, fun hc => ?_⟩)|(intro hc; try omega))
            refine tri_loopI (fun j : Nat => AS.of [(0, .one (.val (.sl (.sl .int)) p)), (1, .one (.val (.sl (.sl .int)) q)), (9, .one (.ref 1031)), (12, .one (.ref 93)), (13, .I i), (14, .one (.ref 88)), (15, .I k), (16, .one (.box 16)), (44, .I p.length), (45, .I i), (51, .I (wid q)), (52, .I k), (56, .one (.ref 1031)), (57, .I (wid p)), (58, .I j)]
              [(1031, .flat 3 .int (colsP p)), (93, .deep 48 50 (.prod .int .int) (tbl i fun i => tbl (wid q) fun k => rat (gnum p q i k (wid p)) (gden p (wid p)))), (88, .flat 50 (.prod .int .int) (tbl k fun k => rat (gnum p q i k (wid p)) (gden p (wid p))))] [(16, .one (.val (.prod .int .int) (rat (gnum p q i k j) (gden p j))))]) (fun j => j ≤ wid p) (fun j => wid p - j) 0 (Nat.zero_le _) ?_ ?_
            · refine weak_of ?_ ?_ ?_ <;> simp only [push_cast, Int.reduceEq, Int.reduceLT, Int.reduceLE, Int.reduceNeg, Nat.reduceLT, Nat.reduceLeDiff, Int.reduceToNat, Int.cast_ofNat_Int, Nat.reduceBEq, Nat.reduceMul, Nat.reduceEqDiff, reduceCtorEq, Nat.reduceAdd]
              rw [gnum, gden, rat_zero Nat.one_pos]
            intro j hj K3 hL3
            by_cases hj' : j < wid p
            · have m := mid_of he hi' hj' hk'
              have a1 := m.p0
              have a2 := m.q0
              have a3 := m.c0
              have cp : (p.getD i []).getD j 0 = cell p i j := rfl
              have cq : (q.getD j []).getD k 0 = cell q j k := rfl
              have cc : (colsP p).getD j 0 = colP p j := tbl_get _ _ hj'
              have hqj : (q.getD j []).length = wid q := iq.row (by omega)
              have b1 : 0 ≤ cell p i j * cell q j k := Int.mul_nonneg a1.1 a2.1
              have b2 : cell p i j * cell q j k ≤ 150 * 150 := Int.mul_le_mul a1.2 a2.2 a2.1 (by omega)
              have b3 : InR (cell p i j * cell q j k) := ⟨by omega, by omega⟩
              have b4 : Fits (cell p i j * cell q j k) := ⟨by omega, by omega⟩
              have b5 : Fits (colP p j) := ⟨by omega, by omega⟩
              by_cases hM : 0 < colP p j
              · have pre := glue_pre he hi' hj' hk' hM
                replace hnl := And.intro hnl (And.intro cp (And.intro cq (And.intro cc (And.intro hqj (glue_step (q := q) (k := k) a1.1 a2.1 (show 0 < gmid p j by unfold gmid; omega))))))
                repeat' (first|(refine goK (by assumption) ?_; iterate 4 (try clear hK K))|(refine tri_seqk fun K hK => ?_)|((first|refine tri_region hE rfl ?_|refine tri_ret ?_|((first|refine tri_drawP hE 1 rfl rfl (by kernel_rfl) ?_|refine tri_drawP hE 2 rfl rfl (by kernel_rfl) ?_|refine tri_drawP hE 3 rfl rfl (by kernel_rfl) ?_|refine tri_drawP hE 4 rfl rfl (by kernel_rfl) ?_); simp only [List.length_cons, List.length_nil, Nat.reduceAdd, Nat.reduceSub, List.take_succ_cons, List.take_zero, List.drop_succ_cons, List.drop_zero])); simp +contextual only [hnl, ↓kN, ↓kP, ↓kG, ↓qN, ↓qP, ↓qG, push_cast, Int.reduceEq, Int.reduceLT, Int.reduceLE, Int.reduceNeg, Nat.reduceLT, Nat.reduceLeDiff, Int.reduceToNat, Int.cast_ofNat_Int, Nat.reduceBEq, Nat.reduceMul, Nat.reduceEqDiff, reduceCtorEq, Nat.reduceAdd])|refine tri_block ?_|((first|refine tri_skip ?_|refine tri_exit ?_); simp only [thenQ, blockQ, if_true, if_false, Nat.reduceEqDiff, reduceCtorEq])|(refine tri_cond (by rfl) (fun hb => ?_) (fun hb => ?_) <;> (try simp only [decide_eq_true_eq, decide_eq_false_iff_not, Bool.not_eq_true', Bool.not_eq_false', reduceCtorEq, Bool.true_eq_false, Bool.false_eq_true] at hb) <;> (try omega))|refine tri_unk (by rfl) ?_ ?_|refine And.intro (by first|omega|(unfold InR; omega)|assumption|decide|exact ⟨_, _, rfl⟩) ?_|(refine ⟨fun hc => ?_, fun hc => ?_⟩)|(intro hc; try omega))
                refine ⟨⟨b4, b5, hM⟩, ?_⟩
                repeat' (first|(refine goK (by assumption) ?_; iterate 4 (try clear hK K))|(refine tri_seqk fun K hK => ?_)|((first|refine tri_region hE rfl ?_|refine tri_ret ?_|((first|refine tri_drawP hE 1 rfl rfl (by kernel_rfl) ?_|refine tri_drawP hE 2 rfl rfl (by kernel_rfl) ?_|refine tri_drawP hE 3 rfl rfl (by kernel_rfl) ?_|refine tri_drawP hE 4 rfl rfl (by kernel_rfl) ?_); simp only [List.length_cons, List.length_nil, Nat.reduceAdd, Nat.reduceSub, List.take_succ_cons, List.take_zero, List.drop_succ_cons, List.drop_zero])); simp +contextual only [hnl, ↓kN, ↓kP, ↓kG, ↓qN, ↓qP, ↓qG, push_cast, Int.reduceEq, Int.reduceLT, Int.reduceLE, Int.reduceNeg, Nat.reduceLT, Nat.reduceLeDiff, Int.reduceToNat, Int.cast_ofNat_Int, Nat.reduceBEq, Nat.reduceMul, Nat.reduceEqDiff, reduceCtorEq, Nat.reduceAdd])|refine tri_block ?_|((first|refine tri_skip ?_|refine tri_exit ?_); simp only [thenQ, blockQ, if_true, if_false, Nat.reduceEqDiff, reduceCtorEq])|(refine tri_cond (by rfl) (fun hb => ?_) (fun hb => ?_) <;> (try simp only [decide_eq_true_eq, decide_eq_false_iff_not, Bool.not_eq_true', Bool.not_eq_false', reduceCtorEq, Bool.true_eq_false, Bool.false_eq_true] at hb) <;> (try omega))|refine tri_unk (by rfl) ?_ ?_|refine And.intro (by first|omega|(unfold InR; omega)|assumption|decide|exact ⟨_, _, rfl⟩) ?_|(refine ⟨fun hc => ?_, fun hc => ?_⟩)|(intro hc; try omega))
                refine hL3 _ (j + 1) (by omega) (by omega) ?_
                refine weak_of ?_ ?_ ?_ <;> simp only [push_cast, Int.reduceEq, Int.reduceLT, Int.reduceLE, Int.reduceNeg, Nat.reduceLT, Nat.reduceLeDiff, Int.reduceToNat, Int.cast_ofNat_Int, Nat.reduceBEq, Nat.reduceMul, Nat.reduceEqDiff, reduceCtorEq, Nat.reduceAdd]
              · replace hnl := And.intro hnl (And.intro cp (And.intro cq (And.intro cc hqj)))
                repeat' (first|(refine goK (by assumption) ?_; iterate 4 (try clear hK K))|(refine tri_seqk fun K hK => ?_)|((first|refine tri_region hE rfl ?_|refine tri_ret ?_|((first|refine tri_drawP hE 1 rfl rfl (by kernel_rfl) ?_|refine tri_drawP hE 2 rfl rfl (by kernel_rfl) ?_|refine tri_drawP hE 3 rfl rfl (by kernel_rfl) ?_|refine tri_drawP hE 4 rfl rfl (by kernel_rfl) ?_); simp only [List.length_cons, List.length_nil, Nat.reduceAdd, Nat.reduceSub, List.take_succ_cons, List.take_zero, List.drop_succ_cons, List.drop_zero])); simp +contextual only [hnl, ↓kN, ↓kP, ↓kG, ↓qN, ↓qP, ↓qG, push_cast, Int.reduceEq, Int.reduceLT, Int.reduceLE, Int.reduceNeg, Nat.reduceLT, Nat.reduceLeDiff, Int.reduceToNat, Int.cast_ofNat_Int, Nat.reduceBEq, Nat.reduceMul, Nat.reduceEqDiff, reduceCtorEq, Nat.reduceAdd])|refine tri_block ?_|((first|refine tri_skip ?_|refine tri_exit ?_); simp only [thenQ, blockQ, if_true, if_false, Nat.reduceEqDiff, reduceCtorEq])|(refine tri_cond (by rfl) (fun hb => ?_) (fun hb => ?_) <;> (try simp only [decide_eq_true_eq, decide_eq_false_iff_not, Bool.not_eq_true', Bool.not_eq_false', reduceCtorEq, Bool.true_eq_false, Bool.false_eq_true] at hb) <;> (try omega))|refine tri_unk (by rfl) ?_ ?_|refine And.intro (by first|omega|(unfold InR; omega)|assumption|decide|exact ⟨_, _, rfl⟩) ?_|(refine ⟨fun hc => ?_, fun hc => ?_⟩)|(intro hc; try omega))
                refine hL3 _ (j + 1) (by omega) (by omega) ?_
                refine weak_of ?_ ?_ ?_ <;> simp only [push_cast, Int.reduceEq, Int.reduceLT, Int.reduceLE, Int.reduceNeg, Nat.reduceLT, Nat.reduceLeDiff, Int.reduceToNat, Int.cast_ofNat_Int, Nat.reduceBEq, Nat.reduceMul, Nat.reduceEqDiff, reduceCtorEq, Nat.reduceAdd]
                rw [glue_skip (show ¬ 0 < gmid p j by unfold gmid; omega)]
            · obtain rfl : j = wid p := by omega
              repeat' (first|(refine goK (by assumption) ?_; iterate 4 (try clear hK K))|(refine tri_seqk fun K hK => ?_)|((first|refine tri_region hE rfl ?_|refine tri_ret ?_|((first|refine tri_drawP hE 1 rfl rfl (by kernel_rfl) ?_|refine tri_drawP hE 2 rfl rfl (by kernel_rfl) ?_|refine tri_drawP hE 3 rfl rfl (by kernel_rfl) ?_|refine tri_drawP hE 4 rfl rfl (by kernel_rfl) ?_); simp only [List.length_cons, List.length_nil, Nat.reduceAdd, Nat.reduceSub, List.take_succ_cons, List.take_zero, List.drop_succ_cons, List.drop_zero])); simp +contextual only [hnl, ↓kN, ↓kP, ↓kG, ↓qN, ↓qP, ↓qG, push_cast, Int.reduceEq, Int.reduceLT, Int.reduceLE, Int.reduceNeg, Nat.reduceLT, Nat.reduceLeDiff, Int.reduceToNat, Int.cast_ofNat_Int, Nat.reduceBEq, Nat.reduceMul, Nat.reduceEqDiff, reduceCtorEq, Nat.reduceAdd])|refine tri_block ?_|((first|refine tri_skip ?_|refine tri_exit ?_); simp only [thenQ, blockQ, if_true, if_false, Nat.reduceEqDiff, reduceCtorEq])|(refine tri_cond (by rfl) (fun hb => ?_) (fun hb => ?_) <;> (try simp only [decide_eq_true_eq, decide_eq_false_iff_not, Bool.not_eq_true', Bool.not_eq_false', reduceCtorEq, Bool.true_eq_false, Bool.false_eq_true] at hb) <;> (try omega))|refine tri_unk (by rfl) ?_ ?_|refine And.intro (by first|omega|(unfold InR; omega)|assumption|decide|exact ⟨_, _, rfl⟩) ?_|(refine ⟨fun hc => ?_, fun hc => ?_⟩)|(intro hc; try omega))
              refine hL2 _ (k + 1) (by omega) (by omega) ?_
              refine weak_of ?_ ?_ ?_ <;> simp only [push_cast, Int.reduceEq, Int.reduceLT, Int.reduceLE, Int.reduceNeg, Nat.reduceLT, Nat.reduceLeDiff, Int.reduceToNat, Int.cast_ofNat_Int, Nat.reduceBEq, Nat.reduceMul, Nat.reduceEqDiff, reduceCtorEq, Nat.reduceAdd]
              left
              rw [tbl_succ]
          · obtain rfl : k = wid q := by omega
            repeat' (first|(refine goK (by assumption) ?_; iterate 4 (try clear hK K))|(refine tri_seqk fun K hK => ?_)|((first|refine tri_region hE rfl ?_|refine tri_ret ?_|((first|refine tri_drawP hE 1 rfl rfl (by kernel_rfl) ?_|refine tri_drawP hE 2 rfl rfl (by kernel_rfl) ?_|refine tri_drawP hE 3 rfl rfl (by kernel_rfl) ?_|refine tri_drawP hE 4 rfl rfl (by kernel_rfl) ?_); simp only [List.length_cons, List.length_nil, Nat.reduceAdd, Nat.reduceSub, List.take_succ_cons, List.take_zero, List.drop_succ_cons, List.drop_zero])); simp +contextual only [hnl, ↓kN, ↓kP, ↓kG, ↓qN, ↓qP, ↓qG, push_cast, Int.reduceEq, Int.reduceLT, Int.reduceLE, Int.reduceNeg, Nat.reduceLT, Nat.reduceLeDiff, Int.reduceToNat, Int.cast_ofNat_Int, Nat.reduceBEq, Nat.reduceMul, Nat.reduceEqDiff, reduceCtorEq, Nat.reduceAdd])|refine tri_block ?_|((first|refine tri_skip ?_|refine tri_exit ?_); simp only [thenQ, blockQ, if_true, if_false, Nat.reduceEqDiff, reduceCtorEq])|(refine tri_cond (by rfl) (fun hb => ?_) (fun hb => ?_) <;> (try simp only [decide_eq_true_eq, decide_eq_false_iff_not, Bool.not_eq_true', Bool.not_eq_false', reduceCtorEq, Bool.true_eq_false, Bool.false_eq_true] at hb) <;> (try omega))|refine tri_unk (by rfl) ?_ ?_|refine And.intro (by first|omega|(unfold InR; omega)|assumption|decide|exact ⟨_, _, rfl⟩) ?_|(refine ⟨fun hc => ?_, fun hc => ?_⟩)|(intro hc; try omega))
            refine hL _ (i + 1) (by omega) (by omega) ?_
            refine weak_of ?_ ?_ ?_ <;> simp only [push_cast, Int.reduceEq, Int.reduceLT, Int.reduceLE, Int.reduceNeg, Nat.reduceLT, Nat.reduceLeDiff, Int.reduceToNat, Int.cast_ofNat_Int, Nat.reduceBEq, Nat.reduceMul, Nat.reduceEqDiff, reduceCtorEq, Nat.reduceAdd]
            left
            rw [tbl_succ]
        · obtain rfl : i = p.length := by omega
          repeat' (first|(refine goK (by assumption) ?_; iterate 4 (try clear hK K))|(refine tri_seqk fun K hK => ?_)|((first|refine tri_region hE rfl ?_|refine tri_ret ?_|((first|refine tri_drawP hE 1 rfl rfl (by kernel_rfl) ?_|refine tri_drawP hE 2 rfl rfl (by kernel_rfl) ?_|refine tri_drawP hE 3 rfl rfl (by kernel_rfl) ?_|refine tri_drawP hE 4 rfl rfl (by kernel_rfl) ?_); simp only [List.length_cons, List.length_nil, Nat.reduceAdd, Nat.reduceSub, List.take_succ_cons, List.take_zero, List.drop_succ_cons, List.drop_zero])); simp +contextual only [hnl, ↓kN, ↓kP, ↓kG, ↓qN, ↓qP, ↓qG, push_cast, Int.reduceEq, Int.reduceLT, Int.reduceLE, Int.reduceNeg, Nat.reduceLT, Nat.reduceLeDiff, Int.reduceToNat, Int.cast_ofNat_Int, Nat.reduceBEq, Nat.reduceMul, Nat.reduceEqDiff, reduceCtorEq, Nat.reduceAdd])|refine tri_block ?_|((first|refine tri_skip ?_|refine tri_exit ?_); simp only [thenQ, blockQ, if_true, if_false, Nat.reduceEqDiff, reduceCtorEq])|(refine tri_cond (by rfl) (fun hb => ?_) (fun hb => ?_) <;> (try simp only [decide_eq_true_eq, decide_eq_false_iff_not, Bool.not_eq_true', Bool.not_eq_false', reduceCtorEq, Bool.true_eq_false, Bool.false_eq_true] at hb) <;> (try omega))|refine tri_unk (by rfl) ?_ ?_|refine And.intro (by first|omega|(unfold InR; omega)|assumption|decide|exact ⟨_, _, rfl⟩) ?_|(refine ⟨fun hc => ?_, fun hc => ?_⟩)|(intro hc; try omega))
          rfl
      · replace hnl := And.intro hnl (And.intro hp (And.intro hq (And.intro w2 (And.intro (errGlue_5 hp hq hs) hs))))
        repeat' (first|(refine goK (by assumption) ?_; iterate 4 (try clear hK K))|(refine tri_seqk fun K hK => ?_)|((first|refine tri_region hE rfl ?_|refine tri_ret ?_|((first|refine tri_drawP hE 1 rfl rfl (by kernel_rfl) ?_|refine tri_drawP hE 2 rfl rfl (by kernel_rfl) ?_|refine tri_drawP hE 3 rfl rfl (by kernel_rfl) ?_|refine tri_drawP hE 4 rfl rfl (by kernel_rfl) ?_); simp only [List.length_cons, List.length_nil, Nat.reduceAdd, Nat.reduceSub, List.take_succ_cons, List.take_zero, List.drop_succ_cons, List.drop_zero])); simp +contextual only [hnl, ↓kN, ↓kP, ↓kG, ↓qN, ↓qP, ↓qG, push_cast, Int.reduceEq, Int.reduceLT, Int.reduceLE, Int.reduceNeg, Nat.reduceLT, Nat.reduceLeDiff, Int.reduceToNat, Int.cast_ofNat_Int, Nat.reduceBEq, Nat.reduceMul, Nat.reduceEqDiff, reduceCtorEq, Nat.reduceAdd])|refine tri_block ?_|((first|refine tri_skip ?_|refine tri_exit ?_); simp only [thenQ, blockQ, if_true, if_false, Nat.reduceEqDiff, reduceCtorEq])|(refine tri_cond (by rfl) (fun hb => ?_) (fun hb => ?_) <;> (try simp only [decide_eq_true_eq, decide_eq_false_iff_not, Bool.not_eq_true', Bool.not_eq_false', reduceCtorEq, Bool.true_eq_false, Bool.false_eq_true] at hb) <;> (try omega))|refine tri_unk (by rfl) ?_ ?_|refine And.intro (by first|omega|(unfold InR; omega)|assumption|decide|exact ⟨_, _, rfl⟩) ?_|(refine ⟨fun hc => ?_, fun hc => ?_⟩)|(intro hc; try omega))
    · replace hnl := And.intro hnl (And.intro hp (And.intro hq (errGlue_q hp hq).symm))
      repeat' (first|(refine goK (by assumption) ?_; iterate 4 (try clear hK K))|(refine tri_seqk fun K hK => ?_)|((first|refine tri_region hE rfl ?_|refine tri_ret ?_|((first|refine tri_drawP hE 1 rfl rfl (by kernel_rfl) ?_|refine tri_drawP hE 2 rfl rfl (by kernel_rfl) ?_|refine tri_drawP hE 3 rfl rfl (by kernel_rfl) ?_|refine tri_drawP hE 4 rfl rfl (by kernel_rfl) ?_); simp only [List.length_cons, List.length_nil, Nat.reduceAdd, Nat.reduceSub, List.take_succ_cons, List.take_zero, List.drop_succ_cons, List.drop_zero])); simp +contextual only [hnl, ↓kN, ↓kP, ↓kG, ↓qN, ↓qP, ↓qG, push_cast, Int.reduceEq, Int.reduceLT, Int.reduceLE, Int.reduceNeg, Nat.reduceLT, Nat.reduceLeDiff, Int.reduceToNat, Int.cast_ofNat_Int, Nat.reduceBEq, Nat.reduceMul, Nat.reduceEqDiff, reduceCtorEq, Nat.reduceAdd])|refine tri_block ?_|((first|refine tri_skip ?_|refine tri_exit ?_); simp only [thenQ, blockQ, if_true, if_false, Nat.reduceEqDiff, reduceCtorEq])|(refine tri_cond (by rfl) (fun hb => ?_) (fun hb => ?_) <;> (try simp only [decide_eq_true_eq, decide_eq_false_iff_not, Bool.not_eq_true', Bool.not_eq_false', reduceCtorEq, Bool.true_eq_false, Bool.false_eq_true] at hb) <;> (try omega))|refine tri_unk (by rfl) ?_ ?_|refine And.intro (by first|omega|(unfold InR; omega)|assumption|decide|exact ⟨_, _, rfl⟩) ?_|(refine ⟨fun hc => ?_, fun hc => ?_⟩)|(intro hc; try omega))
  · replace hnl := And.intro hnl (And.intro hp (errGlue_p (q := q) hp).symm)
    repeat' (first|(refine goK (by assumption) ?_; iterate 4 (try clear hK K))|(refine tri_seqk fun K hK => ?_)|((first|refine tri_region hE rfl ?_|refine tri_ret ?_|((first|refine tri_drawP hE 1 rfl rfl (by kernel_rfl) ?_|refine tri_drawP hE 2 rfl rfl (by kernel_rfl) ?_|refine tri_drawP hE 3 rfl rfl (by kernel_rfl) ?_|refine tri_drawP hE 4 rfl rfl (by kernel_rfl) ?_); simp only [List.length_cons, List.length_nil, Nat.reduceAdd, Nat.reduceSub, List.take_succ_cons, List.take_zero, List.drop_succ_cons, List.drop_zero])); simp +contextual only [hnl, ↓kN, ↓kP, ↓kG, ↓qN, ↓qP, ↓qG, push_cast, Int.reduceEq, Int.reduceLT, Int.reduceLE, Int.reduceNeg, Nat.reduceLT, Nat.reduceLeDiff, Int.reduceToNat, Int.cast_ofNat_Int, Nat.reduceBEq, Nat.reduceMul, Nat.reduceEqDiff, reduceCtorEq, Nat.reduceAdd])|refine tri_block ?_|((first|refine tri_skip ?_|refine tri_exit ?_); simp only [thenQ, blockQ, if_true, if_false, Nat.reduceEqDiff, reduceCtorEq])|(refine tri_cond (by rfl) (fun hb => ?_) (fun hb => ?_) <;> (try simp only [decide_eq_true_eq, decide_eq_false_iff_not, Bool.not_eq_true', Bool.not_eq_false', reduceCtorEq, Bool.true_eq_false, Bool.false_eq_true] at hb) <;> (try omega))|refine tri_unk (by rfl) ?_ ?_|refine And.intro (by first|omega|(unfold InR; omega)|assumption|decide|exact ⟨_, _, rfl⟩) ?_|(refine ⟨fun hc => ?_, fun hc => ?_⟩)|(intro hc; try omega))
end Go.Proofs.Ytloipnalmkdldaa
