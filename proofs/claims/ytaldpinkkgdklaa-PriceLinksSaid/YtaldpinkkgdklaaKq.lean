/- The statement PriceLinks: for every table and plan. No condition. -/
import Derived.Test.YtaldpinkkgdklaaKk
import Derived.Test.YtaldpinkkgdklaaKt
import Derived.Test.YtaldpinkkgdklaaGv
namespace Go.Proofs.Ytaldpinkkgdklaa
open Go.RowKit Go.VS Go.OT Go.LC
set_option linter.unusedSimpArgs false
set_option linter.unusedVariables false

/-! ### The links of a plan -/
def lkRow (t : List (List Int)) (i : Nat) : Nat → List Pr
  | 0 => []
  | j + 1 => lkRow t i j ++ (if 0 < (t.getD i []).getD j 0 then [((i : Int), (j : Int))] else [])
def lkTo (t : List (List Int)) : Nat → List Pr
  | 0 => []
  | i + 1 => lkTo t i ++ lkRow t i (wid t)
def lkV (t : List (List Int)) : List Pr := lkTo t t.length
structure LkI (t : List (List Int)) (i j : Nat) (L : List Pr) : Prop where
  srt : L.Pairwise lexLt
  mem : ∀ x ∈ L, 0 ≤ x.1 ∧ 0 ≤ x.2 ∧ (x.1 < i ∨ x.1 = i ∧ x.2 < j) ∧ x.2 < wid t ∧ 0 < (t.getD x.1.toNat []).getD x.2.toNat 0
  all : ∀ r k : Nat, (r < i ∨ r = i ∧ k < j) → k < wid t → 0 < (t.getD r []).getD k 0 → ((r : Int), (k : Int)) ∈ L
  len : L.length ≤ i * wid t + j
theorem LkI.step {t : List (List Int)} {i j : Nat} {L : List Pr} (h : LkI t i j L) (hj : j < wid t) : LkI t i (j + 1) (L ++ (if 0 < (t.getD i []).getD j 0 then [((i : Int), (j : Int))] else [])) := by
  by_cases h0 : 0 < (t.getD i []).getD j 0
  · rw [if_pos h0]
    refine ⟨List.pairwise_append.2 ⟨h.srt, by simp, fun x hx y hy => ?_⟩, fun x hx => ?_, fun r k h1 h2 h3 => ?_, by rw [List.length_append]; have := h.len; simp only [List.length_cons, List.length_nil]; omega⟩
    · obtain rfl := List.mem_singleton.1 hy
      obtain ⟨_, _, k3, _⟩ := h.mem x hx
      unfold lexLt
      dsimp only
      omega
    · rcases List.mem_append.1 hx with hx | hx
      · obtain ⟨k1, k2, k3, k4, k5⟩ := h.mem x hx
        exact ⟨k1, k2, by omega, k4, k5⟩
      · obtain rfl := List.mem_singleton.1 hx
        dsimp only
        exact ⟨by omega, by omega, by omega, by omega, h0⟩
    · rw [List.mem_append]
      by_cases hk : r = i ∧ k = j
      · right
        rw [hk.1, hk.2]
        exact List.mem_singleton.2 rfl
      · left
        exact h.all r k (by omega) h2 h3
  · rw [if_neg h0, List.append_nil]
    refine ⟨h.srt, fun x hx => ?_, fun r k h1 h2 h3 => ?_, by have := h.len; omega⟩
    · obtain ⟨k1, k2, k3, k4, k5⟩ := h.mem x hx
      exact ⟨k1, k2, by omega, k4, k5⟩
    · by_cases hk : r = i ∧ k = j
      · rw [hk.1, hk.2] at h3
        exact absurd h3 h0
      · exact h.all r k (by omega) h2 h3
theorem LkI.row {t : List (List Int)} {i : Nat} {L : List Pr} (h : LkI t i 0 L) : ∀ j, j ≤ wid t → LkI t i j (L ++ lkRow t i j)
  | 0, _ => by
    rw [show lkRow t i 0 = [] from rfl, List.append_nil]
    exact h
  | j + 1, hj => by
    have h1 := (LkI.row h j (by omega)).step (by omega)
    rw [List.append_assoc] at h1
    exact h1
theorem LkI.next {t : List (List Int)} {i : Nat} {L : List Pr} (h : LkI t i (wid t) L) : LkI t (i + 1) 0 L :=
  ⟨h.srt, fun x hx => by obtain ⟨k1, k2, k3, k4, k5⟩ := h.mem x hx; exact ⟨k1, k2, by omega, k4, k5⟩, fun r k h1 h2 h3 => h.all r k (by omega) h2 h3, by have := h.len; rw [Nat.add_mul]; omega⟩
theorem lkI (t : List (List Int)) : ∀ i, LkI t i 0 (lkTo t i)
  | 0 => ⟨List.Pairwise.nil, fun x hx => (by cases hx), fun r k h => (by omega), by simp [lkTo]⟩
  | i + 1 => ((lkI t i).row (wid t) (Nat.le_refl _)).next
theorem lk_len {t : List (List Int)} (ht : InPlan t) {i j : Nat} (hi : i ≤ t.length) (hj : j ≤ wid t) : (lkTo t i ++ lkRow t i j).length ≤ 1000 := by
  have h1 := ((lkI t i).row j hj).len
  have h2 := ht.rows
  have h3 := ht.cols
  have h4 : i * wid t ≤ 5 * 5 := Nat.mul_le_mul (by omega) (by omega)
  omega
theorem lk_step {t : List (List Int)} {i j : Nat} (h : 0 < (t.getD i []).getD j 0) : (lkTo t i ++ lkRow t i j) ++ [((i : Int), (j : Int))] = lkTo t i ++ lkRow t i (j + 1) := by
  rw [List.append_assoc, lkRow, if_pos h]
theorem lk_skip {t : List (List Int)} {i j : Nat} (h : ¬ 0 < (t.getD i []).getD j 0) : lkTo t i ++ lkRow t i j = lkTo t i ++ lkRow t i (j + 1) := by
  rw [lkRow, if_neg h, List.append_nil]
theorem lk_zero (t : List (List Int)) (i : Nat) : lkTo t i ++ lkRow t i 0 = lkTo t i := List.append_nil _

section
variable {c t : List (List Int)}
theorem lk_at {k : Nat} (hk : k < (lkV t).length) : 0 ≤ (toP (lkV t) k).1 ∧ 0 ≤ (toP (lkV t) k).2 ∧ (toP (lkV t) k).1 < t.length ∧ (toP (lkV t) k).2 < wid t ∧ 0 < (t.getD (lr (lkV t) k) []).getD (lc (lkV t) k) 0 := by
  obtain ⟨k1, k2, k3, k4, k5⟩ := (lkI t t.length).mem _ (getD_mem (0, 0) hk)
  exact ⟨k1, k2, by show ((lkTo t t.length).getD k (0, 0)).1 < _; omega, k4, k5⟩
theorem lk_links (hc : InTab 0 99 c) (h1 : t.length = c.length) (h2 : wid t = wid c) : Lnk c (lkV t) := by
  refine ⟨fun i hi => ?_, fun i hi => ?_⟩
  · obtain ⟨k1, k2, k3, k4, _⟩ := lk_at hi
    exact ⟨k1, by omega, k2, by omega⟩
  · have h3 := List.pairwise_iff_getElem.1 (lkI t t.length).srt i (i + 1) (by show i < (lkV t).length; omega) hi (by omega)
    unfold toP
    rw [List.getD_eq_getElem?_getD, List.getD_eq_getElem?_getD, List.getElem?_eq_getElem (by omega), List.getElem?_eq_getElem hi]
    exact h3
theorem lk_pos {i j : Nat} (hi : i < t.length) (hj : j < wid t) : 0 < gt t i j ↔ ∃ k, k < (lkV t).length ∧ lr (lkV t) k = i ∧ lc (lkV t) k = j := by
  constructor
  · intro h
    obtain ⟨k, hk, he⟩ := List.getElem_of_mem ((lkI t t.length).all i j (.inl hi) hj h)
    have e : toP (lkV t) k = ((i : Int), (j : Int)) := by
      have hk' : k < (lkV t).length := hk
      unfold toP
      rw [List.getD_eq_getElem?_getD, List.getElem?_eq_getElem hk']
      exact he
    refine ⟨k, hk, ?_, ?_⟩
    · unfold lr; rw [e]; rfl
    · unfold lc; rw [e]; rfl
  · rintro ⟨k, hk, rfl, rfl⟩
    exact (lk_at hk).2.2.2.2
/-- A plan is a cheapest one exactly if its links are cyclic. -/
theorem links_iff (h : errSpend c t = 0) (hf : errFits (rowsP t) (colsP t) c = 0) : CycP c (lkV t) ↔ spendV c t = leastV (rowsP t) (colsP t) c := by
  obtain ⟨h1, h2, h3, h4⟩ := errSpend_ok h
  obtain ⟨k1, k2⟩ := own_plan h
  have hl := lk_links h1 h3 h4
  have e1 : (rowsP t).length = c.length := by rw [rowsP_len, h3]
  have e2 : (colsP t).length = wid c := by rw [colsP_len, h4]
  rw [cyc_iff h1 hl e1 e2 k1 (fun i j hi hj => lk_pos (by omega) (by omega)), ← k2]
  constructor
  · intro hall
    have h5 := hall _ (fits_best hf).plan
    rw [← cheap_cst hf] at h5
    have h6 := own_least h hf
    omega
  · intro he q hq
    rw [he, cheap_cst hf]
    obtain ⟨r, s, g1, g2, _⟩ := (fits_best hf).good
    exact (fits_best hf).plan.least g1 g2 hq
end

@[push_cast] def trueLinks : Con := ⟨[.dat (.sl (.sl .int)), .dat (.sl (.sl .int))], fun _ => True, fun _ => { res := [.val .bool true] }⟩

set_option maxHeartbeats 4000000 in
theorem links_fn : FnSpec Try.prog 13 trueLinks := by
  refine FnSpec.of_tri' (E := know [(17, wideCon), (18, knownCon), (19, costVCon), (47, isCon), (29, leastCon)] [] [] [34, 39]) (know_ok (all_cons wide_spec (all_cons known_spec (all_cons pcostv_spec (all_cons pis_spec (all_cons pleast_spec all_nil))))) all_nil all_nil) Try.func13 rfl rfl (by kernel_rfl) ?_
  intro C x hE hnl hfit hpre
  simp only [Try.ntmps13, Try.results13, maxLen, Nat.reduceSub, Nat.reducePow, Nat.reduceAdd, Int.cast_ofNat_Int, push_cast] at hnl hfit hpre ⊢
  obtain ⟨(c : List (List Int)), (t : List (List Int)), _⟩ := x
  dsimp only at hfit hpre ⊢
  have hw : (t.getD 0 []).length = wid t := rfl
  by_cases hs : errSpend c t = 0
  · obtain ⟨k1, k2, k3, k4⟩ := errSpend_ok hs
    have htl := k2.rows
    have w6 := k2.cols
    replace hnl := And.intro hnl (And.intro hs hw)
    repeat' (first|(refine goK (by assumption) ?_; iterate 4 (try clear hK K))|(refine tri_seqk fun K hK => ?_)|((first|refine tri_region hE rfl ?_|refine tri_ret ?_|((first|refine tri_drawP hE 1 rfl rfl (by kernel_rfl) ?_|refine tri_drawP hE 2 rfl rfl (by kernel_rfl) ?_|refine tri_drawP hE 3 rfl rfl (by kernel_rfl) ?_|refine tri_drawP hE 4 rfl rfl (by kernel_rfl) ?_); simp only [List.length_cons, List.length_nil, Nat.reduceAdd, Nat.reduceSub, List.take_succ_cons, List.take_zero, List.drop_succ_cons, List.drop_zero])); simp +contextual only [hnl, ↓kN, ↓kP, ↓kG, ↓qN, ↓qP, ↓qG, push_cast, Int.reduceEq, Int.reduceLT, Int.reduceLE, Int.reduceNeg, Nat.reduceLT, Nat.reduceLeDiff, Int.reduceToNat, Int.cast_ofNat_Int, Nat.reduceBEq, Nat.reduceMul, Nat.reduceEqDiff, reduceCtorEq, Nat.reduceAdd])|refine tri_block ?_|((first|refine tri_skip ?_|refine tri_exit ?_); simp only [thenQ, blockQ, if_true, if_false, Nat.reduceEqDiff, reduceCtorEq])|(refine tri_cond (by rfl) (fun hb => ?_) (fun hb => ?_) <;> (try simp only [decide_eq_true_eq, decide_eq_false_iff_not, Bool.not_eq_true', Bool.not_eq_false', reduceCtorEq, Bool.true_eq_false, Bool.false_eq_true] at hb) <;> (try omega))|refine tri_unk (by rfl) ?_ ?_|refine And.intro (by first|omega|(unfold InR; omega)|assumption|decide|exact ⟨_, _, rfl⟩) ?_|(refine ⟨fun hc => ?_, fun hc => ?_⟩)|(intro hc; try omega))
    refine tri_thaw 7 34 34 (by simp only [push_cast, Int.reduceEq, Int.reduceLT, Int.reduceLE, Int.reduceNeg, Nat.reduceLT, Nat.reduceLeDiff, Int.reduceToNat, Int.cast_ofNat_Int, Nat.reduceBEq, Nat.reduceMul, Nat.reduceEqDiff, reduceCtorEq, Nat.reduceAdd]; rfl) (by omega) ?_
    refine tri_thaw 8 39 39 (by simp only [push_cast, Int.reduceEq, Int.reduceLT, Int.reduceLE, Int.reduceNeg, Nat.reduceLT, Nat.reduceLeDiff, Int.reduceToNat, Int.cast_ofNat_Int, Nat.reduceBEq, Nat.reduceMul, Nat.reduceEqDiff, reduceCtorEq, Nat.reduceAdd]; rfl) (by omega) ?_
    refine tri_loopI (fun i : Nat => AS.of [(0, .one (.val (.sl (.sl .int)) c)), (1, .one (.val (.sl (.sl .int)) t)), (5, .I (spendV c t)), (7, .one (.ref 34)), (8, .one (.ref 39)), (9, .one (.ref 94)), (10, .I i)] [(34, .flat 3 .int (rowT t i 0)), (39, .flat 3 .int (colT t i 0)), (94, .flat 73 (.prod .int .int) (lkTo t i))] []) (fun i => i ≤ t.length) (fun i => t.length - i) 0 (Nat.zero_le _) ?_ ?_
    · refine weak_of ?_ ?_ ?_ <;> simp only [push_cast, Int.reduceEq, Int.reduceLT, Int.reduceLE, Int.reduceNeg, Nat.reduceLT, Nat.reduceLeDiff, Int.reduceToNat, Int.cast_ofNat_Int, Nat.reduceBEq, Nat.reduceMul, Nat.reduceEqDiff, reduceCtorEq, Nat.reduceAdd]
      exact ⟨.inl (congrArg _ (rowT_zero rfl)), .inl (congrArg _ (colT_zero rfl)), by omega, rfl⟩
    intro i hi K' hL
    rcases Nat.lt_or_ge i t.length with hit | hit
    · have hrow := k2.row hit
      repeat' (first|(refine goK (by assumption) ?_; iterate 4 (try clear hK K))|(refine tri_seqk fun K hK => ?_)|((first|refine tri_region hE rfl ?_|refine tri_ret ?_|((first|refine tri_drawP hE 1 rfl rfl (by kernel_rfl) ?_|refine tri_drawP hE 2 rfl rfl (by kernel_rfl) ?_|refine tri_drawP hE 3 rfl rfl (by kernel_rfl) ?_|refine tri_drawP hE 4 rfl rfl (by kernel_rfl) ?_); simp only [List.length_cons, List.length_nil, Nat.reduceAdd, Nat.reduceSub, List.take_succ_cons, List.take_zero, List.drop_succ_cons, List.drop_zero])); simp +contextual only [hnl, ↓kN, ↓kP, ↓kG, ↓qN, ↓qP, ↓qG, push_cast, Int.reduceEq, Int.reduceLT, Int.reduceLE, Int.reduceNeg, Nat.reduceLT, Nat.reduceLeDiff, Int.reduceToNat, Int.cast_ofNat_Int, Nat.reduceBEq, Nat.reduceMul, Nat.reduceEqDiff, reduceCtorEq, Nat.reduceAdd])|refine tri_block ?_|((first|refine tri_skip ?_|refine tri_exit ?_); simp only [thenQ, blockQ, if_true, if_false, Nat.reduceEqDiff, reduceCtorEq])|(refine tri_cond (by rfl) (fun hb => ?_) (fun hb => ?_) <;> (try simp only [decide_eq_true_eq, decide_eq_false_iff_not, Bool.not_eq_true', Bool.not_eq_false', reduceCtorEq, Bool.true_eq_false, Bool.false_eq_true] at hb) <;> (try omega))|refine tri_unk (by rfl) ?_ ?_|refine And.intro (by first|omega|(unfold InR; omega)|assumption|decide|exact ⟨_, _, rfl⟩) ?_|(refine ⟨fun hc => ?_, fun hc => ?_⟩)|(intro hc; try omega))
      refine tri_loopI (fun j : Nat => AS.of [(0, .one (.val (.sl (.sl .int)) c)), (1, .one (.val (.sl (.sl .int)) t)), (5, .I (spendV c t)), (7, .one (.ref 34)), (8, .one (.ref 39)), (9, .one (.ref 94)), (10, .I i), (11, .I j)] [(34, .flat 3 .int (rowT t i j)), (39, .flat 3 .int (colT t i j)), (94, .flat 73 (.prod .int .int) (lkTo t i ++ lkRow t i j))] []) (fun j => j ≤ wid t) (fun j => wid t - j) 0 (Nat.zero_le _) ?_ ?_
      · refine weak_of ?_ ?_ ?_ <;> simp only [push_cast, Int.reduceEq, Int.reduceLT, Int.reduceLE, Int.reduceNeg, Nat.reduceLT, Nat.reduceLeDiff, Int.reduceToNat, Int.cast_ofNat_Int, Nat.reduceBEq, Nat.reduceMul, Nat.reduceEqDiff, reduceCtorEq, Nat.reduceAdd]
        rw [lk_zero]
        all_goals first | exact ⟨.inl rfl, .inl rfl, .inl rfl⟩ | exact .inl rfl
      intro j hj K2 hL2
      have l1 := rowT_len (t := t) (i := i) (j := j)
      have l2 := colT_len (t := t) (i := i) (j := j)
      rcases Nat.lt_or_ge j (wid t) with hjt | hjt
      · have e1 := rowT_at (j := j) hit
        have e2 := colT_at (i := i) hjt
        have s1 := k2.sumR hit j
        have s2 := k2.at hit hjt
        have s3 := k2.sumC hjt i
        have s4 := lk_len k2 hi hj
        replace hnl := And.intro hnl (And.intro l1 (And.intro l2 (And.intro e1 e2)))
        repeat' (first|(refine goK (by assumption) ?_; iterate 4 (try clear hK K))|(refine tri_seqk fun K hK => ?_)|((first|refine tri_region hE rfl ?_|refine tri_ret ?_|((first|refine tri_drawP hE 1 rfl rfl (by kernel_rfl) ?_|refine tri_drawP hE 2 rfl rfl (by kernel_rfl) ?_|refine tri_drawP hE 3 rfl rfl (by kernel_rfl) ?_|refine tri_drawP hE 4 rfl rfl (by kernel_rfl) ?_); simp only [List.length_cons, List.length_nil, Nat.reduceAdd, Nat.reduceSub, List.take_succ_cons, List.take_zero, List.drop_succ_cons, List.drop_zero])); simp +contextual only [hnl, ↓kN, ↓kP, ↓kG, ↓qN, ↓qP, ↓qG, push_cast, Int.reduceEq, Int.reduceLT, Int.reduceLE, Int.reduceNeg, Nat.reduceLT, Nat.reduceLeDiff, Int.reduceToNat, Int.cast_ofNat_Int, Nat.reduceBEq, Nat.reduceMul, Nat.reduceEqDiff, reduceCtorEq, Nat.reduceAdd])|refine tri_block ?_|((first|refine tri_skip ?_|refine tri_exit ?_); simp only [thenQ, blockQ, if_true, if_false, Nat.reduceEqDiff, reduceCtorEq])|(refine tri_cond (by rfl) (fun hb => ?_) (fun hb => ?_) <;> (try simp only [decide_eq_true_eq, decide_eq_false_iff_not, Bool.not_eq_true', Bool.not_eq_false', reduceCtorEq, Bool.true_eq_false, Bool.false_eq_true] at hb) <;> (try omega))|refine tri_unk (by rfl) ?_ ?_|refine And.intro (by first|omega|(unfold InR; omega)|assumption|decide|exact ⟨_, _, rfl⟩) ?_|(refine ⟨fun hc => ?_, fun hc => ?_⟩)|(intro hc; try omega))
        all_goals refine hL2 _ (j + 1) (by omega) (by omega) ?_
        all_goals refine weak_of ?_ ?_ ?_ <;> simp only [push_cast, Int.reduceEq, Int.reduceLT, Int.reduceLE, Int.reduceNeg, Nat.reduceLT, Nat.reduceLeDiff, Int.reduceToNat, Int.cast_ofNat_Int, Nat.reduceBEq, Nat.reduceMul, Nat.reduceEqDiff, reduceCtorEq, Nat.reduceAdd]
        all_goals rw [rowT_step k2 hit hjt, colT_step hjt]
        all_goals first | rw [lk_step hb] | rw [lk_skip hb]
        all_goals exact ⟨.inl rfl, .inl rfl, .inl rfl⟩
      · obtain rfl : j = wid t := by omega
        replace hnl := And.intro hnl (And.intro l1 l2)
        repeat' (first|(refine goK (by assumption) ?_; iterate 4 (try clear hK K))|(refine tri_seqk fun K hK => ?_)|((first|refine tri_region hE rfl ?_|refine tri_ret ?_|((first|refine tri_drawP hE 1 rfl rfl (by kernel_rfl) ?_|refine tri_drawP hE 2 rfl rfl (by kernel_rfl) ?_|refine tri_drawP hE 3 rfl rfl (by kernel_rfl) ?_|refine tri_drawP hE 4 rfl rfl (by kernel_rfl) ?_); simp only [List.length_cons, List.length_nil, Nat.reduceAdd, Nat.reduceSub, List.take_succ_cons, List.take_zero, List.drop_succ_cons, List.drop_zero])); simp +contextual only [hnl, ↓kN, ↓kP, ↓kG, ↓qN, ↓qP, ↓qG, push_cast, Int.reduceEq, Int.reduceLT, Int.reduceLE, Int.reduceNeg, Nat.reduceLT, Nat.reduceLeDiff, Int.reduceToNat, Int.cast_ofNat_Int, Nat.reduceBEq, Nat.reduceMul, Nat.reduceEqDiff, reduceCtorEq, Nat.reduceAdd])|refine tri_block ?_|((first|refine tri_skip ?_|refine tri_exit ?_); simp only [thenQ, blockQ, if_true, if_false, Nat.reduceEqDiff, reduceCtorEq])|(refine tri_cond (by rfl) (fun hb => ?_) (fun hb => ?_) <;> (try simp only [decide_eq_true_eq, decide_eq_false_iff_not, Bool.not_eq_true', Bool.not_eq_false', reduceCtorEq, Bool.true_eq_false, Bool.false_eq_true] at hb) <;> (try omega))|refine tri_unk (by rfl) ?_ ?_|refine And.intro (by first|omega|(unfold InR; omega)|assumption|decide|exact ⟨_, _, rfl⟩) ?_|(refine ⟨fun hc => ?_, fun hc => ?_⟩)|(intro hc; try omega))
        refine hL _ (i + 1) (by omega) (by omega) ?_
        refine weak_of ?_ ?_ ?_ <;> simp only [push_cast, Int.reduceEq, Int.reduceLT, Int.reduceLE, Int.reduceNeg, Nat.reduceLT, Nat.reduceLeDiff, Int.reduceToNat, Int.cast_ofNat_Int, Nat.reduceBEq, Nat.reduceMul, Nat.reduceEqDiff, reduceCtorEq, Nat.reduceAdd]
        rw [rowT_next k2 hit, colT_next hit]
        exact ⟨.inl rfl, .inl rfl, .inl rfl⟩
    · obtain rfl : i = t.length := by omega
      have e0 : lkTo t t.length = lkV t := rfl
      rw [rowT_end, colT_end, e0]
      have hlk := errLinks_0 k1 (lk_links k1 k3 k4)
      by_cases hf : errFits (rowsP t) (colsP t) c = 0
      · have hiff := links_iff hs hf
        by_cases hn : CycP c (lkV t)
        · have h5 := hiff.1 hn
          replace hnl := And.intro hnl (And.intro hlk (And.intro hf (And.intro (eq_true hn) h5)))
          repeat' (first|(refine goK (by assumption) ?_; iterate 4 (try clear hK K))|(refine tri_seqk fun K hK => ?_)|((first|refine tri_region hE rfl ?_|refine tri_ret ?_|((first|refine tri_drawP hE 1 rfl rfl (by kernel_rfl) ?_|refine tri_drawP hE 2 rfl rfl (by kernel_rfl) ?_|refine tri_drawP hE 3 rfl rfl (by kernel_rfl) ?_|refine tri_drawP hE 4 rfl rfl (by kernel_rfl) ?_); simp only [List.length_cons, List.length_nil, Nat.reduceAdd, Nat.reduceSub, List.take_succ_cons, List.take_zero, List.drop_succ_cons, List.drop_zero])); simp +contextual only [hnl, ↓kN, ↓kP, ↓kG, ↓qN, ↓qP, ↓qG, push_cast, Int.reduceEq, Int.reduceLT, Int.reduceLE, Int.reduceNeg, Nat.reduceLT, Nat.reduceLeDiff, Int.reduceToNat, Int.cast_ofNat_Int, Nat.reduceBEq, Nat.reduceMul, Nat.reduceEqDiff, reduceCtorEq, Nat.reduceAdd])|refine tri_block ?_|((first|refine tri_skip ?_|refine tri_exit ?_); simp only [thenQ, blockQ, if_true, if_false, Nat.reduceEqDiff, reduceCtorEq])|(refine tri_cond (by rfl) (fun hb => ?_) (fun hb => ?_) <;> (try simp only [decide_eq_true_eq, decide_eq_false_iff_not, Bool.not_eq_true', Bool.not_eq_false', reduceCtorEq, Bool.true_eq_false, Bool.false_eq_true] at hb) <;> (try omega))|refine tri_unk (by rfl) ?_ ?_|refine And.intro (by first|omega|(unfold InR; omega)|assumption|decide|exact ⟨_, _, rfl⟩) ?_|(refine ⟨fun hc => ?_, fun hc => ?_⟩)|(intro hc; try omega))
          all_goals skip
        · have h5 : ¬ spendV c t = leastV (rowsP t) (colsP t) c := fun h => hn (hiff.2 h)
          replace hnl := And.intro hnl (And.intro hlk (And.intro hf (And.intro (eq_false hn) (eq_false h5))))
          repeat' (first|(refine goK (by assumption) ?_; iterate 4 (try clear hK K))|(refine tri_seqk fun K hK => ?_)|((first|refine tri_region hE rfl ?_|refine tri_ret ?_|((first|refine tri_drawP hE 1 rfl rfl (by kernel_rfl) ?_|refine tri_drawP hE 2 rfl rfl (by kernel_rfl) ?_|refine tri_drawP hE 3 rfl rfl (by kernel_rfl) ?_|refine tri_drawP hE 4 rfl rfl (by kernel_rfl) ?_); simp only [List.length_cons, List.length_nil, Nat.reduceAdd, Nat.reduceSub, List.take_succ_cons, List.take_zero, List.drop_succ_cons, List.drop_zero])); simp +contextual only [hnl, ↓kN, ↓kP, ↓kG, ↓qN, ↓qP, ↓qG, push_cast, Int.reduceEq, Int.reduceLT, Int.reduceLE, Int.reduceNeg, Nat.reduceLT, Nat.reduceLeDiff, Int.reduceToNat, Int.cast_ofNat_Int, Nat.reduceBEq, Nat.reduceMul, Nat.reduceEqDiff, reduceCtorEq, Nat.reduceAdd])|refine tri_block ?_|((first|refine tri_skip ?_|refine tri_exit ?_); simp only [thenQ, blockQ, if_true, if_false, Nat.reduceEqDiff, reduceCtorEq])|(refine tri_cond (by rfl) (fun hb => ?_) (fun hb => ?_) <;> (try simp only [decide_eq_true_eq, decide_eq_false_iff_not, Bool.not_eq_true', Bool.not_eq_false', reduceCtorEq, Bool.true_eq_false, Bool.false_eq_true] at hb) <;> (try omega))|refine tri_unk (by rfl) ?_ ?_|refine And.intro (by first|omega|(unfold InR; omega)|assumption|decide|exact ⟨_, _, rfl⟩) ?_|(refine ⟨fun hc => ?_, fun hc => ?_⟩)|(intro hc; try omega))
          all_goals skip
      · replace hnl := And.intro hnl (And.intro hlk (eq_false hf))
        repeat' (first|(refine goK (by assumption) ?_; iterate 4 (try clear hK K))|(refine tri_seqk fun K hK => ?_)|((first|refine tri_region hE rfl ?_|refine tri_ret ?_|((first|refine tri_drawP hE 1 rfl rfl (by kernel_rfl) ?_|refine tri_drawP hE 2 rfl rfl (by kernel_rfl) ?_|refine tri_drawP hE 3 rfl rfl (by kernel_rfl) ?_|refine tri_drawP hE 4 rfl rfl (by kernel_rfl) ?_); simp only [List.length_cons, List.length_nil, Nat.reduceAdd, Nat.reduceSub, List.take_succ_cons, List.take_zero, List.drop_succ_cons, List.drop_zero])); simp +contextual only [hnl, ↓kN, ↓kP, ↓kG, ↓qN, ↓qP, ↓qG, push_cast, Int.reduceEq, Int.reduceLT, Int.reduceLE, Int.reduceNeg, Nat.reduceLT, Nat.reduceLeDiff, Int.reduceToNat, Int.cast_ofNat_Int, Nat.reduceBEq, Nat.reduceMul, Nat.reduceEqDiff, reduceCtorEq, Nat.reduceAdd])|refine tri_block ?_|((first|refine tri_skip ?_|refine tri_exit ?_); simp only [thenQ, blockQ, if_true, if_false, Nat.reduceEqDiff, reduceCtorEq])|(refine tri_cond (by rfl) (fun hb => ?_) (fun hb => ?_) <;> (try simp only [decide_eq_true_eq, decide_eq_false_iff_not, Bool.not_eq_true', Bool.not_eq_false', reduceCtorEq, Bool.true_eq_false, Bool.false_eq_true] at hb) <;> (try omega))|refine tri_unk (by rfl) ?_ ?_|refine And.intro (by first|omega|(unfold InR; omega)|assumption|decide|exact ⟨_, _, rfl⟩) ?_|(refine ⟨fun hc => ?_, fun hc => ?_⟩)|(intro hc; try omega))
        all_goals skip
  · replace hnl := And.intro hnl (eq_false hs)
    repeat' (first|(refine goK (by assumption) ?_; iterate 4 (try clear hK K))|(refine tri_seqk fun K hK => ?_)|((first|refine tri_region hE rfl ?_|refine tri_ret ?_|((first|refine tri_drawP hE 1 rfl rfl (by kernel_rfl) ?_|refine tri_drawP hE 2 rfl rfl (by kernel_rfl) ?_|refine tri_drawP hE 3 rfl rfl (by kernel_rfl) ?_|refine tri_drawP hE 4 rfl rfl (by kernel_rfl) ?_); simp only [List.length_cons, List.length_nil, Nat.reduceAdd, Nat.reduceSub, List.take_succ_cons, List.take_zero, List.drop_succ_cons, List.drop_zero])); simp +contextual only [hnl, ↓kN, ↓kP, ↓kG, ↓qN, ↓qP, ↓qG, push_cast, Int.reduceEq, Int.reduceLT, Int.reduceLE, Int.reduceNeg, Nat.reduceLT, Nat.reduceLeDiff, Int.reduceToNat, Int.cast_ofNat_Int, Nat.reduceBEq, Nat.reduceMul, Nat.reduceEqDiff, reduceCtorEq, Nat.reduceAdd])|refine tri_block ?_|((first|refine tri_skip ?_|refine tri_exit ?_); simp only [thenQ, blockQ, if_true, if_false, Nat.reduceEqDiff, reduceCtorEq])|(refine tri_cond (by rfl) (fun hb => ?_) (fun hb => ?_) <;> (try simp only [decide_eq_true_eq, decide_eq_false_iff_not, Bool.not_eq_true', Bool.not_eq_false', reduceCtorEq, Bool.true_eq_false, Bool.false_eq_true] at hb) <;> (try omega))|refine tri_unk (by rfl) ?_ ?_|refine And.intro (by first|omega|(unfold InR; omega)|assumption|decide|exact ⟨_, _, rfl⟩) ?_|(refine ⟨fun hc => ?_, fun hc => ?_⟩)|(intro hc; try omega))
end Go.Proofs.Ytaldpinkkgdklaa
