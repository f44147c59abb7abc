/- The sum of two plans. Conditions: in each contract. -/
import Derived.Test.YtloipnalmkdldaaFm
namespace Go.Proofs.Ytloipnalmkdldaa
open Go.RowKit Go.VS
set_option linter.unusedSimpArgs false
set_option linter.unusedVariables false

def cell (p : List (List Int)) (i j : Nat) : Int := (p.getD i []).getD j 0
def bigT (p q : List (List Int)) : Bool := (List.range p.length).any fun i => (List.range (wid p)).any fun j => decide (150 < cell p i j + cell q i j)
def sumT (p q : List (List Int)) : List (List Int) := tbl p.length fun i => tbl (wid p) fun j => cell p i j + cell q i j
def errSum (p q : List (List Int)) : Int := if errPlan p = 0 then if errPlan q = 0 then if p.length = q.length ∧ wid p = wid q then if bigT p q = true then 3 else 0 else 5 else 1 else 1

theorem bigT_iff {p q : List (List Int)} : bigT p q = true ↔ ∃ i j, i < p.length ∧ j < wid p ∧ 150 < cell p i j + cell q i j := by
  simp only [bigT, List.any_eq_true, List.mem_range, decide_eq_true_eq]
  constructor
  · rintro ⟨i, hi, j, hj, h⟩
    exact ⟨i, j, hi, hj, h⟩
  · rintro ⟨i, j, hi, hj, h⟩
    exact ⟨i, hi, j, hj, h⟩

section
variable {p q : List (List Int)}
theorem errSum_p (h : ¬ errPlan p = 0) : errPlan p = errSum p q := by
  unfold errSum
  rw [if_neg h]
  exact (errPlan_01 p).resolve_left h
theorem errSum_q (h1 : errPlan p = 0) (h : ¬ errPlan q = 0) : errPlan q = errSum p q := by
  unfold errSum
  rw [if_pos h1, if_neg h]
  exact (errPlan_01 q).resolve_left h
theorem errSum_5 (h1 : errPlan p = 0) (h2 : errPlan q = 0) (h : ¬ (p.length = q.length ∧ wid p = wid q)) : errSum p q = 5 := by
  unfold errSum
  rw [if_pos h1, if_pos h2, if_neg h]
theorem errSum_3 (h1 : errPlan p = 0) (h2 : errPlan q = 0) (h : p.length = q.length ∧ wid p = wid q) (hb : bigT p q = true) : errSum p q = 3 := by
  unfold errSum
  rw [if_pos h1, if_pos h2, if_pos h, if_pos hb]
theorem errSum_0 (h1 : errPlan p = 0) (h2 : errPlan q = 0) (h : p.length = q.length ∧ wid p = wid q) (hb : ∀ i j, i < p.length → j < wid p → cell p i j + cell q i j ≤ 150) : errSum p q = 0 := by
  unfold errSum
  rw [if_pos h1, if_pos h2, if_pos h, if_neg]
  intro hk
  obtain ⟨i, j, hi, hj, h3⟩ := bigT_iff.1 hk
  have := hb i j hi hj
  omega
theorem errSum_in (h : errSum p q = 0) : InPlan p ∧ InPlan q ∧ p.length = q.length ∧ wid p = wid q ∧ ∀ i j, i < p.length → j < wid p → cell p i j + cell q i j ≤ 150 := by
  unfold errSum at h
  split at h
  · split at h
    · split at h
      · split at h
        · simp at h
        · rename_i h1 h2 h3 h4
          refine ⟨errPlan_in h1, errPlan_in h2, h3.1, h3.2, fun i j hi hj => Int.not_lt.1 fun h5 => h4 (bigT_iff.2 ⟨i, j, hi, hj, h5⟩)⟩
      · simp at h
    · simp at h
  · simp at h
end

@[push_cast] def sumCon : Con := ⟨[.dat (.sl (.sl .int)), .dat (.sl (.sl .int))], fun _ => True, fun (x : List (List Int) × List (List Int) × Unit) =>
  { res := [.own (.deep 33 3 .int (if errSum x.1 x.2.1 = 0 then sumT x.1 x.2.1 else [])), .val .int (errSum x.1 x.2.1)] }⟩

def sumP (p q : List (List Int)) (i j : Nat) : List (List Int) := tbl p.length fun r => tbl (wid p) fun c => if r < i ∨ r = i ∧ c < j then cell p r c + cell q r c else cell p r c

section
variable {p q : List (List Int)} {i j : Nat}
theorem sumP_len : (sumP p q i j).length = p.length := tbl_len _ _
theorem sumP_row (hi : i < p.length) : ((sumP p q i j).getD i []).length = wid p := by rw [sumP, tbl_get _ _ hi, tbl_len]
theorem sumP_cell (hi : i < p.length) (hj : j < wid p) : ((sumP p q i j).getD i []).getD j 0 = cell p i j := by rw [sumP, tbl_get _ _ hi, tbl_get _ _ hj, if_neg (by omega)]
theorem sumP_cell' (hi : i < p.length) (hj : j < wid p) : ((sumP p q i (j + 1)).getD i []).getD j 0 = cell p i j + cell q i j := by rw [sumP, tbl_get _ _ hi, tbl_get _ _ hj, if_pos (by omega)]
theorem sumP_set (hi : i < p.length) : (sumP p q i j).set i (((sumP p q i j).getD i []).set j (cell p i j + cell q i j)) = sumP p q i (j + 1) := by
  rw [sumP, tbl_get _ _ hi, tbl_set, tbl_set]
  refine tbl_congr fun r _ => ?_
  by_cases h : r = i
  · subst h
    rw [if_pos rfl]
    refine tbl_congr fun c _ => ?_
    by_cases h2 : c = j
    · subst h2
      rw [if_pos rfl, if_pos (by omega)]
    · rw [if_neg h2]
      by_cases h3 : c < j
      · rw [if_pos (by omega), if_pos (by omega)]
      · rw [if_neg (by omega), if_neg (by omega)]
  · rw [if_neg h]
    refine tbl_congr fun c _ => ?_
    by_cases h3 : r < i
    · rw [if_pos (by omega), if_pos (by omega)]
    · rw [if_neg (by omega), if_neg (by omega)]
theorem sumP_next (hj : wid p ≤ j) : sumP p q i j = sumP p q (i + 1) 0 := by
  refine tbl_congr fun r _ => tbl_congr fun c hc => ?_
  by_cases h3 : r < i ∨ r = i ∧ c < j
  · rw [if_pos h3, if_pos (by omega)]
  · rw [if_neg h3, if_neg (by omega)]
theorem sumP_zero (h : InPlan p) : sumP p q 0 0 = p := by
  conv => rhs; rw [list_tbl p []]
  refine tbl_congr fun r hr => ?_
  conv => rhs; rw [list_tbl (p.getD r []) 0, h.row hr]
  exact tbl_congr fun c _ => by rw [if_neg (by omega)]; rfl
theorem sumP_end (hi : p.length ≤ i) : sumP p q i j = sumT p q := tbl_congr fun r hr => tbl_congr fun c _ => by rw [if_pos (by omega)]
end

theorem sum_spec : FnSpec Try.prog 27 sumCon := by
  refine FnSpec.of_tri' (E := know [(22, planCon), (39, copyCon)] [] [] []) (know_ok (all_cons plan_spec (all_cons copy_spec all_nil)) all_nil all_nil) Try.func27 rfl rfl (by kernel_rfl) ?_
  intro C x hE hnl hfit hpre
  simp only [Try.ntmps27, Try.results27, maxLen, Nat.reduceSub, Nat.reducePow, Nat.reduceAdd, Int.cast_ofNat_Int, push_cast] at hnl hfit hpre ⊢
  obtain ⟨(p : List (List Int)), (q : List (List Int)), _⟩ := x
  dsimp only at hfit hpre ⊢
  by_cases hp : errPlan p = 0
  · by_cases hq : errPlan q = 0
    · have ip := errPlan_in hp
      have iq := errPlan_in hq
      have r1 := ip.rows
      have r3 := ip.cols
      have r2 := iq.rows
      have sm := ip.small
      have w1 : (p.getD 0 []).length = wid p := rfl
      have w2 : (q.getD 0 []).length = wid q := rfl
      by_cases hs : p.length = q.length ∧ wid p = wid q
      · obtain ⟨hs1, hs2⟩ := hs
        replace hnl := And.intro hnl (And.intro hp (And.intro hq (And.intro w1 (And.intro w2 (And.intro hs2.symm hs1.symm)))))
        repeat' (first|(refine goK (by assumption) ?_; iterate 4 (try clear hK K))|(refine tri_seqk fun K hK => ?_)|((first|refine tri_region hE rfl ?_|refine tri_ret ?_|((first|refine tri_drawP hE 1 rfl rfl (by kernel_rfl) ?_|refine tri_drawP hE 2 rfl rfl (by kernel_rfl) ?_|refine tri_drawP hE 3 rfl rfl (by kernel_rfl) ?_|refine tri_drawP hE 4 rfl rfl (by kernel_rfl) ?_); simp only [List.length_cons, List.length_nil, Nat.reduceAdd, Nat.reduceSub, List.take_succ_cons, List.take_zero, List.drop_succ_cons, List.drop_zero])); simp +contextual only [hnl, ↓kN, ↓kP, ↓kG, ↓qN, ↓qP, ↓qG, push_cast, Int.reduceEq, Int.reduceLT, Int.reduceLE, Int.reduceNeg, Nat.reduceLT, Nat.reduceLeDiff, Int.reduceToNat, Int.cast_ofNat_Int, Nat.reduceBEq, Nat.reduceMul, Nat.reduceEqDiff, reduceCtorEq, Nat.reduceAdd])|refine tri_block ?_|((first|refine tri_skip ?_|refine tri_exit ?_); simp only [thenQ, blockQ, if_true, if_false, Nat.reduceEqDiff, reduceCtorEq])|(refine tri_cond (by rfl) (fun hb => ?_) (fun hb => ?_) <;> (try simp only [decide_eq_true_eq, decide_eq_false_iff_not, Bool.not_eq_true', Bool.not_eq_false', reduceCtorEq, Bool.true_eq_false, Bool.false_eq_true] at hb) <;> (try omega))|refine tri_unk (by rfl) ?_ ?_|refine And.intro (by first|omega|(unfold InR; omega)|assumption|decide|exact ⟨_, _, rfl⟩) ?_|(refine ⟨fun hc => ?_, fun hc => ?_⟩)|(intro hc; try omega))
        have main : ∀ i j, i < p.length → j < wid p → 150 < cell p i j + cell q i j → errSum p q = 3 := fun i j hi hj h => errSum_3 hp hq ⟨hs1, hs2⟩ (bigT_iff.2 ⟨i, j, hi, hj, h⟩)
        refine tri_loopI (fun i : Nat => AS.of [(8, .one (.ref 40)), (41, .one (.val (.sl (.sl .int)) q)), (42, .I p.length), (43, .I i)] [(40, .deep 33 3 .int (sumP p q i 0))] []) (fun i => i ≤ p.length ∧ ∀ r c, r < i → c < wid p → cell p r c + cell q r c ≤ 150) (fun i => p.length - i) 0 ⟨Nat.zero_le _, by omega⟩ ?_ ?_
        · refine weak_of ?_ ?_ ?_ <;> simp only [push_cast, Int.reduceEq, Int.reduceLT, Int.reduceLE, Int.reduceNeg, Nat.reduceLT, Nat.reduceLeDiff, Int.reduceToNat, Int.cast_ofNat_Int, Nat.reduceBEq, Nat.reduceMul, Nat.reduceEqDiff, reduceCtorEq, Nat.reduceAdd]
          left
          rw [sumP_zero ip]
        intro i ⟨hi, hok⟩ K' hL
        repeat' (first|(refine goK (by assumption) ?_; iterate 4 (try clear hK K))|(refine tri_seqk fun K hK => ?_)|((first|refine tri_region hE rfl ?_|refine tri_ret ?_|((first|refine tri_drawP hE 1 rfl rfl (by kernel_rfl) ?_|refine tri_drawP hE 2 rfl rfl (by kernel_rfl) ?_|refine tri_drawP hE 3 rfl rfl (by kernel_rfl) ?_|refine tri_drawP hE 4 rfl rfl (by kernel_rfl) ?_); simp only [List.length_cons, List.length_nil, Nat.reduceAdd, Nat.reduceSub, List.take_succ_cons, List.take_zero, List.drop_succ_cons, List.drop_zero])); simp +contextual only [hnl, ↓kN, ↓kP, ↓kG, ↓qN, ↓qP, ↓qG, push_cast, Int.reduceEq, Int.reduceLT, Int.reduceLE, Int.reduceNeg, Nat.reduceLT, Nat.reduceLeDiff, Int.reduceToNat, Int.cast_ofNat_Int, Nat.reduceBEq, Nat.reduceMul, Nat.reduceEqDiff, reduceCtorEq, Nat.reduceAdd])|refine tri_block ?_|((first|refine tri_skip ?_|refine tri_exit ?_); simp only [thenQ, blockQ, if_true, if_false, Nat.reduceEqDiff, reduceCtorEq])|(refine tri_cond (by rfl) (fun hb => ?_) (fun hb => ?_) <;> (try simp only [decide_eq_true_eq, decide_eq_false_iff_not, Bool.not_eq_true', Bool.not_eq_false', reduceCtorEq, Bool.true_eq_false, Bool.false_eq_true] at hb) <;> (try omega))|refine tri_unk (by rfl) ?_ ?_|refine And.intro (by first|omega|(unfold InR; omega)|assumption|decide|exact ⟨_, _, rfl⟩) ?_|(refine ⟨fun hc => ?_, fun hc => ?_⟩)|(intro hc; try omega))
        · have hi' : i < p.length := by omega
          have hqi := iq.row (show i < q.length by omega)
          refine tri_loopI (fun j : Nat => AS.of [(8, .one (.ref 40)), (9, .I i), (41, .one (.val (.sl (.sl .int)) q)), (42, .I p.length), (43, .I i), (48, .one (.val (.sl .int) (q.getD i []))), (49, .I (wid p)), (50, .I j)] [(40, .deep 33 3 .int (sumP p q i j))] []) (fun j => j ≤ wid p ∧ ∀ c, c < j → cell p i c + cell q i c ≤ 150) (fun j => wid p - j) 0 ⟨Nat.zero_le _, by omega⟩ ?_ ?_
          · refine weak_of ?_ ?_ ?_ <;> simp only [push_cast, Int.reduceEq, Int.reduceLT, Int.reduceLE, Int.reduceNeg, Nat.reduceLT, Nat.reduceLeDiff, Int.reduceToNat, Int.cast_ofNat_Int, Nat.reduceBEq, Nat.reduceMul, Nat.reduceEqDiff, reduceCtorEq, Nat.reduceAdd]
            exact congrArg (fun n : Nat => (n : Int)) (hqi.trans hs2.symm)
          intro j ⟨hj, hok2⟩ K2 hL2
          by_cases hjw : j < wid p
          · have c1 : 0 ≤ cell p i j ∧ cell p i j ≤ 150 := ip.at hi' hjw
            have c2 : 0 ≤ cell q i j ∧ cell q i j ≤ 150 := iq.at (by omega) (by omega)
            have cq : (q.getD i []).getD j 0 = cell q i j := rfl
            have cset := sumP_set (q := q) (j := j) hi'
            have clen : (sumP p q i j).length = p.length := sumP_len
            have clen' : (sumP p q i (j + 1)).length = p.length := sumP_len
            have crow : ((sumP p q i (j + 1)).getD i []).length = wid p := by rw [sumP, tbl_get _ _ hi', tbl_len]
            replace hnl := And.intro hnl (And.intro (sumP_cell (q := q) hi' hjw) (And.intro cq (And.intro (sumP_row (q := q) (j := j) hi') (And.intro clen (And.intro cset (And.intro clen' (And.intro crow (sumP_cell' (q := q) hi' hjw))))))))
            repeat' (first|(refine goK (by assumption) ?_; iterate 4 (try clear hK K))|(refine tri_seqk fun K hK => ?_)|((first|refine tri_region hE rfl ?_|refine tri_ret ?_|((first|refine tri_drawP hE 1 rfl rfl (by kernel_rfl) ?_|refine tri_drawP hE 2 rfl rfl (by kernel_rfl) ?_|refine tri_drawP hE 3 rfl rfl (by kernel_rfl) ?_|refine tri_drawP hE 4 rfl rfl (by kernel_rfl) ?_); simp only [List.length_cons, List.length_nil, Nat.reduceAdd, Nat.reduceSub, List.take_succ_cons, List.take_zero, List.drop_succ_cons, List.drop_zero])); simp +contextual only [hnl, ↓kN, ↓kP, ↓kG, ↓qN, ↓qP, ↓qG, push_cast, Int.reduceEq, Int.reduceLT, Int.reduceLE, Int.reduceNeg, Nat.reduceLT, Nat.reduceLeDiff, Int.reduceToNat, Int.cast_ofNat_Int, Nat.reduceBEq, Nat.reduceMul, Nat.reduceEqDiff, reduceCtorEq, Nat.reduceAdd])|refine tri_block ?_|((first|refine tri_skip ?_|refine tri_exit ?_); simp only [thenQ, blockQ, if_true, if_false, Nat.reduceEqDiff, reduceCtorEq])|(refine tri_cond (by rfl) (fun hb => ?_) (fun hb => ?_) <;> (try simp only [decide_eq_true_eq, decide_eq_false_iff_not, Bool.not_eq_true', Bool.not_eq_false', reduceCtorEq, Bool.true_eq_false, Bool.false_eq_true] at hb) <;> (try omega))|refine tri_unk (by rfl) ?_ ?_|refine And.intro (by first|omega|(unfold InR; omega)|assumption|decide|exact ⟨_, _, rfl⟩) ?_|(refine ⟨fun hc => ?_, fun hc => ?_⟩)|(intro hc; try omega))
            · have e3 := main i j hi' hjw (by omega)
              rw [e3]
              simp
            · refine hL2 _ (j + 1) ⟨by omega, fun c hc => ?_⟩ (by omega) ?_
              · rcases Nat.lt_or_ge c j with h3 | h3
                · exact hok2 c h3
                · obtain rfl : c = j := by omega
                  omega
              refine weak_of ?_ ?_ ?_ <;> simp only [push_cast, Int.reduceEq, Int.reduceLT, Int.reduceLE, Int.reduceNeg, Nat.reduceLT, Nat.reduceLeDiff, Int.reduceToNat, Int.cast_ofNat_Int, Nat.reduceBEq, Nat.reduceMul, Nat.reduceEqDiff, reduceCtorEq, Nat.reduceAdd]
          · repeat' (first|(refine goK (by assumption) ?_; iterate 4 (try clear hK K))|(refine tri_seqk fun K hK => ?_)|((first|refine tri_region hE rfl ?_|refine tri_ret ?_|((first|refine tri_drawP hE 1 rfl rfl (by kernel_rfl) ?_|refine tri_drawP hE 2 rfl rfl (by kernel_rfl) ?_|refine tri_drawP hE 3 rfl rfl (by kernel_rfl) ?_|refine tri_drawP hE 4 rfl rfl (by kernel_rfl) ?_); simp only [List.length_cons, List.length_nil, Nat.reduceAdd, Nat.reduceSub, List.take_succ_cons, List.take_zero, List.drop_succ_cons, List.drop_zero])); simp +contextual only [hnl, ↓kN, ↓kP, ↓kG, ↓qN, ↓qP, ↓qG, push_cast, Int.reduceEq, Int.reduceLT, Int.reduceLE, Int.reduceNeg, Nat.reduceLT, Nat.reduceLeDiff, Int.reduceToNat, Int.cast_ofNat_Int, Nat.reduceBEq, Nat.reduceMul, Nat.reduceEqDiff, reduceCtorEq, Nat.reduceAdd])|refine tri_block ?_|((first|refine tri_skip ?_|refine tri_exit ?_); simp only [thenQ, blockQ, if_true, if_false, Nat.reduceEqDiff, reduceCtorEq])|(refine tri_cond (by rfl) (fun hb => ?_) (fun hb => ?_) <;> (try simp only [decide_eq_true_eq, decide_eq_false_iff_not, Bool.not_eq_true', Bool.not_eq_false', reduceCtorEq, Bool.true_eq_false, Bool.false_eq_true] at hb) <;> (try omega))|refine tri_unk (by rfl) ?_ ?_|refine And.intro (by first|omega|(unfold InR; omega)|assumption|decide|exact ⟨_, _, rfl⟩) ?_|(refine ⟨fun hc => ?_, fun hc => ?_⟩)|(intro hc; try omega))
            refine hL _ (i + 1) ⟨by omega, fun r c hr hc => ?_⟩ (by omega) ?_
            · rcases Nat.lt_or_ge r i with h3 | h3
              · exact hok r c h3 hc
              · obtain rfl : r = i := by omega
                exact hok2 c (by omega)
            refine weak_of ?_ ?_ ?_ <;> simp only [push_cast, Int.reduceEq, Int.reduceLT, Int.reduceLE, Int.reduceNeg, Nat.reduceLT, Nat.reduceLeDiff, Int.reduceToNat, Int.cast_ofNat_Int, Nat.reduceBEq, Nat.reduceMul, Nat.reduceEqDiff, reduceCtorEq, Nat.reduceAdd]
            left
            rw [sumP_next (by omega)]
        · have e0 := errSum_0 hp hq ⟨hs1, hs2⟩ fun r c hr hc => hok r c (by omega) hc
          rw [e0, if_pos rfl, sumP_end (by omega)]
          exact ⟨rfl, rfl⟩
      · replace hnl := And.intro hnl (And.intro hp (And.intro hq (And.intro w1 (And.intro w2 (errSum_5 hp hq hs)))))
        repeat' (first|(refine goK (by assumption) ?_; iterate 4 (try clear hK K))|(refine tri_seqk fun K hK => ?_)|((first|refine tri_region hE rfl ?_|refine tri_ret ?_|((first|refine tri_drawP hE 1 rfl rfl (by kernel_rfl) ?_|refine tri_drawP hE 2 rfl rfl (by kernel_rfl) ?_|refine tri_drawP hE 3 rfl rfl (by kernel_rfl) ?_|refine tri_drawP hE 4 rfl rfl (by kernel_rfl) ?_); simp only [List.length_cons, List.length_nil, Nat.reduceAdd, Nat.reduceSub, List.take_succ_cons, List.take_zero, List.drop_succ_cons, List.drop_zero])); simp +contextual only [hnl, ↓kN, ↓kP, ↓kG, ↓qN, ↓qP, ↓qG, push_cast, Int.reduceEq, Int.reduceLT, Int.reduceLE, Int.reduceNeg, Nat.reduceLT, Nat.reduceLeDiff, Int.reduceToNat, Int.cast_ofNat_Int, Nat.reduceBEq, Nat.reduceMul, Nat.reduceEqDiff, reduceCtorEq, Nat.reduceAdd])|refine tri_block ?_|((first|refine tri_skip ?_|refine tri_exit ?_); simp only [thenQ, blockQ, if_true, if_false, Nat.reduceEqDiff, reduceCtorEq])|(refine tri_cond (by rfl) (fun hb => ?_) (fun hb => ?_) <;> (try simp only [decide_eq_true_eq, decide_eq_false_iff_not, Bool.not_eq_true', Bool.not_eq_false', reduceCtorEq, Bool.true_eq_false, Bool.false_eq_true] at hb) <;> (try omega))|refine tri_unk (by rfl) ?_ ?_|refine And.intro (by first|omega|(unfold InR; omega)|assumption|decide|exact ⟨_, _, rfl⟩) ?_|(refine ⟨fun hc => ?_, fun hc => ?_⟩)|(intro hc; try omega))
        all_goals exfalso; omega
    · replace hnl := And.intro hnl (And.intro hp (And.intro hq (errSum_q hp hq).symm))
      repeat' (first|(refine goK (by assumption) ?_; iterate 4 (try clear hK K))|(refine tri_seqk fun K hK => ?_)|((first|refine tri_region hE rfl ?_|refine tri_ret ?_|((first|refine tri_drawP hE 1 rfl rfl (by kernel_rfl) ?_|refine tri_drawP hE 2 rfl rfl (by kernel_rfl) ?_|refine tri_drawP hE 3 rfl rfl (by kernel_rfl) ?_|refine tri_drawP hE 4 rfl rfl (by kernel_rfl) ?_); simp only [List.length_cons, List.length_nil, Nat.reduceAdd, Nat.reduceSub, List.take_succ_cons, List.take_zero, List.drop_succ_cons, List.drop_zero])); simp +contextual only [hnl, ↓kN, ↓kP, ↓kG, ↓qN, ↓qP, ↓qG, push_cast, Int.reduceEq, Int.reduceLT, Int.reduceLE, Int.reduceNeg, Nat.reduceLT, Nat.reduceLeDiff, Int.reduceToNat, Int.cast_ofNat_Int, Nat.reduceBEq, Nat.reduceMul, Nat.reduceEqDiff, reduceCtorEq, Nat.reduceAdd])|refine tri_block ?_|((first|refine tri_skip ?_|refine tri_exit ?_); simp only [thenQ, blockQ, if_true, if_false, Nat.reduceEqDiff, reduceCtorEq])|(refine tri_cond (by rfl) (fun hb => ?_) (fun hb => ?_) <;> (try simp only [decide_eq_true_eq, decide_eq_false_iff_not, Bool.not_eq_true', Bool.not_eq_false', reduceCtorEq, Bool.true_eq_false, Bool.false_eq_true] at hb) <;> (try omega))|refine tri_unk (by rfl) ?_ ?_|refine And.intro (by first|omega|(unfold InR; omega)|assumption|decide|exact ⟨_, _, rfl⟩) ?_|(refine ⟨fun hc => ?_, fun hc => ?_⟩)|(intro hc; try omega))
  · replace hnl := And.intro hnl (And.intro hp (errSum_p (q := q) hp).symm)
    repeat' (first|(refine goK (by assumption) ?_; iterate 4 (try clear hK K))|(refine tri_seqk fun K hK => ?_)|((first|refine tri_region hE rfl ?_|refine tri_ret ?_|((first|refine tri_drawP hE 1 rfl rfl (by kernel_rfl) ?_|refine tri_drawP hE 2 rfl rfl (by kernel_rfl) ?_|refine tri_drawP hE 3 rfl rfl (by kernel_rfl) ?_|refine tri_drawP hE 4 rfl rfl (by kernel_rfl) ?_); simp only [List.length_cons, List.length_nil, Nat.reduceAdd, Nat.reduceSub, List.take_succ_cons, List.take_zero, List.drop_succ_cons, List.drop_zero])); simp +contextual only [hnl, ↓kN, ↓kP, ↓kG, ↓qN, ↓qP, ↓qG, push_cast, Int.reduceEq, Int.reduceLT, Int.reduceLE, Int.reduceNeg, Nat.reduceLT, Nat.reduceLeDiff, Int.reduceToNat, Int.cast_ofNat_Int, Nat.reduceBEq, Nat.reduceMul, Nat.reduceEqDiff, reduceCtorEq, Nat.reduceAdd])|refine tri_block ?_|((first|refine tri_skip ?_|refine tri_exit ?_); simp only [thenQ, blockQ, if_true, if_false, Nat.reduceEqDiff, reduceCtorEq])|(refine tri_cond (by rfl) (fun hb => ?_) (fun hb => ?_) <;> (try simp only [decide_eq_true_eq, decide_eq_false_iff_not, Bool.not_eq_true', Bool.not_eq_false', reduceCtorEq, Bool.true_eq_false, Bool.false_eq_true] at hb) <;> (try omega))|refine tri_unk (by rfl) ?_ ?_|refine And.intro (by first|omega|(unfold InR; omega)|assumption|decide|exact ⟨_, _, rfl⟩) ?_|(refine ⟨fun hc => ?_, fun hc => ?_⟩)|(intro hc; try omega))

end Go.Proofs.Ytloipnalmkdldaa
