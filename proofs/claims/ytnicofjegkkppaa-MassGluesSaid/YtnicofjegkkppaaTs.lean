/- The statement MassGlues: for every two tables. No condition. -/
import Derived.Test.YtnicofjegkkppaaFh
import Derived.Test.YtnicofjegkkppaaFv
namespace Go.Proofs.Ytnicofjegkkppaa
open Go.RowKit Go.VS
set_option linter.unusedSimpArgs false
set_option linter.unusedVariables false

@[push_cast] def trueConTT : Con := ⟨[.dat (.sl (.sl .int)), .dat (.sl (.sl .int))], fun _ => True, fun _ => { res := [.val .bool true] }⟩

theorem nsum_add (f g : Nat → Nat) : ∀ n, nsum (fun k => f k + g k) n = nsum f n + nsum g n
  | 0 => rfl
  | n + 1 => by
    simp only [nsum, nsum_add f g n]
    omega
theorem nsum_mul (f : Nat → Nat) (c : Nat) : ∀ n, nsum (fun k => f k * c) n = nsum f n * c
  | 0 => by simp [nsum]
  | n + 1 => by simp only [nsum, nsum_mul f c n, Nat.add_mul]
theorem nsum_mulL (f : Nat → Nat) (c : Nat) : ∀ n, nsum (fun k => c * f k) n = c * nsum f n
  | 0 => by simp [nsum]
  | n + 1 => by simp only [nsum, nsum_mulL f c n, Nat.mul_add]
theorem nsum_congr {f g : Nat → Nat} : ∀ n, (∀ k, k < n → f k = g k) → nsum f n = nsum g n
  | 0, _ => rfl
  | n + 1, h => by simp only [nsum, nsum_congr n (fun k hk => h k (by omega)), h n (by omega)]
theorem nsum_zero (n : Nat) : nsum (fun _ => 0) n = 0 := by
  induction n with
  | zero => rfl
  | succ n ih => simp only [nsum, ih]

theorem nsum_list (l : List Int) (h : ∀ x ∈ l, 0 ≤ x) : ∀ n, n ≤ l.length → ((nsum (fun k => (l.getD k 0).toNat) n : Nat) : Int) = lsum (l.take n)
  | 0, _ => by simp [nsum, lsum]
  | n + 1, hn => by
    have h1 := nsum_list l h n (by omega)
    have h2 := h _ (getD_mem 0 (show n < l.length by omega))
    rw [lsum_take _ _ (by omega), ← h1]
    simp only [nsum, Int.natCast_add]
    rw [Int.toNat_of_nonneg h2]
theorem nsum_all {l : List Int} (h : ∀ x ∈ l, 0 ≤ x) : nsum (fun k => (l.getD k 0).toNat) l.length = (lsum l).toNat := by
  have := nsum_list l h l.length (Nat.le_refl _)
  rw [List.take_of_length_le (Nat.le_refl _)] at this
  omega

section
variable {p q : List (List Int)}
theorem row_nsum (h : InPlan p) {i : Nat} (hi : i < p.length) : nsum (fun k => (cell p i k).toNat) (wid p) = (lsum (p.getD i [])).toNat := by
  have := nsum_all (l := p.getD i []) fun x hx => (h.mem _ (getD_mem [] hi) x hx).1
  rw [h.row hi] at this
  exact this
theorem col_nsum (h : InPlan p) {k : Nat} (hk : k < wid p) : nsum (fun i => (cell p i k).toNat) p.length = (colP p k).toNat := by
  have := nsum_all (l := p.map fun r => r.getD k 0) fun x hx => by
    obtain ⟨r, hr, rfl⟩ := List.mem_map.1 hx
    exact (h.mem r hr _ (getD_mem 0 (by rw [h.len r hr]; exact hk))).1
  rw [List.length_map] at this
  rw [colP, ← this]
  refine nsum_congr _ fun i hi => ?_
  congr 1
  simp [cell, List.getD_eq_getElem?_getD, hi]

theorem glue_rows (h : errGlue p q = 0) {i : Nat} (hi : i < p.length) : ∀ j, j ≤ wid p → nsum (fun k => gnum p q i k j) (wid q) = nsum (fun c => (cell p i c).toNat) j * gden p j
  | 0, _ => by simp only [gnum, nsum, nsum_zero, Nat.zero_mul]
  | j + 1, hj => by
    obtain ⟨ip, iq, he⟩ := errGlue_in h
    have ih := glue_rows h hi j (by omega)
    have hql : wid p = q.length := by
      have := congrArg List.length he
      simpa [colsP, tbl_len, rowsP] using this
    have hmid : nsum (fun k => (cell q j k).toNat) (wid q) = gmid p j := by
      rw [row_nsum iq (by omega), gmid]
      have h1 : (colsP p).getD j 0 = colP p j := tbl_get _ _ (by omega)
      rw [← h1, he]
      simp [rowsP, List.getD_eq_getElem?_getD, show j < q.length by omega]
    simp only [gnum, gden, nsum]
    by_cases hM : 0 < gmid p j
    · have e : (fun k => if 0 < gmid p j then gnum p q i k j * gmid p j + (cell p i j).toNat * (cell q j k).toNat * gden p j else gnum p q i k j) = fun k => gnum p q i k j * gmid p j + (cell p i j).toNat * (cell q j k).toNat * gden p j := funext fun k => if_pos hM
      rw [e, if_pos hM, nsum_add, nsum_mul, nsum_mul, nsum_mulL, ih, hmid, Nat.add_mul, Nat.mul_assoc, Nat.mul_assoc, Nat.mul_comm (gmid p j)]
    · have e : (fun k => if 0 < gmid p j then gnum p q i k j * gmid p j + (cell p i j).toNat * (cell q j k).toNat * gden p j else gnum p q i k j) = fun k => gnum p q i k j := funext fun k => if_neg hM
      have m := mid_of h hi (show j < wid p by omega) (show 0 < wid q by have := iq.cols; omega)
      have l1 := m.lep
      have l2 := m.c0
      have l3 := m.p0
      have z : (cell p i j).toNat = 0 := by
        unfold gmid at hM
        omega
      rw [e, if_neg hM, ih, z, Nat.add_zero]

theorem glue_cols (h : errGlue p q = 0) {k : Nat} (hk : k < wid q) : ∀ j, j ≤ wid p → nsum (fun i => gnum p q i k j) p.length = nsum (fun c => (cell q c k).toNat) j * gden p j
  | 0, _ => by simp only [gnum, nsum, nsum_zero, Nat.zero_mul]
  | j + 1, hj => by
    obtain ⟨ip, iq, he⟩ := errGlue_in h
    have ih := glue_cols h hk j (by omega)
    have hmid : nsum (fun i => (cell p i j).toNat) p.length = gmid p j := col_nsum ip (by omega)
    simp only [gnum, gden, nsum]
    by_cases hM : 0 < gmid p j
    · have e : (fun i => if 0 < gmid p j then gnum p q i k j * gmid p j + (cell p i j).toNat * (cell q j k).toNat * gden p j else gnum p q i k j) = fun i => gnum p q i k j * gmid p j + (cell p i j).toNat * ((cell q j k).toNat * gden p j) := funext fun i => by rw [if_pos hM, Nat.mul_assoc]
      rw [e, if_pos hM, nsum_add, nsum_mul, nsum_mul, ih, hmid, Nat.add_mul, Nat.mul_assoc]
      congr 1
      rw [Nat.mul_left_comm, Nat.mul_comm (gmid p j)]
    · have e : (fun i => if 0 < gmid p j then gnum p q i k j * gmid p j + (cell p i j).toNat * (cell q j k).toNat * gden p j else gnum p q i k j) = fun i => gnum p q i k j := funext fun i => if_neg hM
      have m := mid_of h (show 0 < p.length by have := ip.rows; omega) (show j < wid p by omega) hk
      have l1 := m.le
      have l2 := m.c0
      have l3 := m.q0
      have z : (cell q j k).toNat = 0 := by
        unfold gmid at hM
        omega
      rw [e, if_neg hM, ih, z, Nat.add_zero]

theorem glue_adds (h : errGlue p q = 0) : ∃ N A B L, AddsUp (glueT p q) (rowsP p) (colsP q) N A B L := by
  obtain ⟨ip, iq, he⟩ := errGlue_in h
  have hql : wid p = q.length := by
    have := congrArg List.length he
    simpa [colsP, tbl_len, rowsP] using this
  have rl : (rowsP p).length = p.length := by simp [rowsP]
  have cl : (colsP q).length = wid q := tbl_len _ _
  have r1 := ip.rows
  have c1 := ip.cols
  have c2 := iq.cols
  refine ⟨fun i k => gnum p q i k (wid p), fun i => (lsum (p.getD i [])).toNat, fun k => (colP q k).toNat, gden p (wid p), gden_pos _, ?_, by omega, by omega, ?_, fun i hi => ?_, fun k hk => ?_⟩
  · have h1 := gden_le (p := p) (j := wid p) fun c hc => by
      have := ip.sumC hc p.length
      rw [List.take_of_length_le (Nat.le_refl _)] at this
      unfold gmid
      omega
    have h2 : (750 : Nat) ^ wid p ≤ 750 ^ 5 := Nat.pow_le_pow_right (by omega) c1.2
    omega
  · rw [rl, cl]
    rfl
  · rw [rl] at hi
    have e : (rowsP p).getD i 0 = lsum (p.getD i []) := by simp [rowsP, List.getD_eq_getElem?_getD, hi]
    have hs := ip.sumR hi (wid p)
    rw [List.take_of_length_le (by rw [ip.row hi]; exact Nat.le_refl _)] at hs
    rw [e, cl]
    refine ⟨by omega, by omega, ?_⟩
    rw [glue_rows h hi (wid p) (Nat.le_refl _), row_nsum ip hi]
  · rw [cl] at hk
    have e : (colsP q).getD k 0 = colP q k := tbl_get _ _ hk
    have hs := iq.sumC hk q.length
    rw [List.take_of_length_le (Nat.le_refl _)] at hs
    rw [e, rl]
    refine ⟨by omega, by omega, ?_⟩
    rw [glue_cols h hk (wid p) (Nat.le_refl _), hql, col_nsum iq hk]
end

theorem glues_fn : FnSpec Try.prog 12 trueConTT := by
  refine FnSpec.of_tri' (E := know [(28, longCon), (17, knownCon), (48, glueCon), (49, glueCon), (26, sameRCon), (29, endsC2), (27, addsCon)] [] [] []) (know_ok (all_cons long_spec (all_cons known_spec (all_cons glue_spec (all_cons rglue_spec (all_cons sameR_spec (all_cons Ends_spec (all_cons adds_spec all_nil))))))) all_nil all_nil) Try.func12 rfl rfl (by kernel_rfl) ?_
  intro C x hE hnl hfit hpre
  simp only [Try.ntmps12, Try.results12, maxLen, Nat.reduceSub, Nat.reducePow, Nat.reduceAdd, Int.cast_ofNat_Int, push_cast] at hnl hfit hpre ⊢
  obtain ⟨(p : List (List Int)), (q : List (List Int)), _⟩ := x
  dsimp only at hfit hpre ⊢
  by_cases he : errGlue p q = 0
  · obtain ⟨ip, iq, _⟩ := errGlue_in he
    have hA := glue_adds he
    replace hnl := And.intro hnl (And.intro he (And.intro (errPlan_0 ip) (errPlan_0 iq)))
    repeat' (first | (refine goK (by assumption) ?_; iterate 4 (try clear hK K)) | (refine tri_seqk fun K hK => ?_) | ((first | (refine tri_region hE rfl ?_) | ((first | (refine tri_drawP hE 1 rfl rfl (by kernel_rfl) ?_) | (refine tri_drawP hE 2 rfl rfl (by kernel_rfl) ?_) | (refine tri_drawP hE 3 rfl rfl (by kernel_rfl) ?_) | (refine tri_drawP hE 4 rfl rfl (by kernel_rfl) ?_)); simp only [List.length_cons, List.length_nil, Nat.reduceAdd, Nat.reduceSub, List.take_succ_cons, List.take_zero, List.drop_succ_cons, List.drop_zero])); simp +contextual only [hnl, ↓runK_nil, ↓runK_plain, ↓runK_guard, ↓runQ_nil, ↓runQ_plain, ↓runQ_guard, push_cast, exists_eq_left', Int.reduceEq, Int.reduceLT, Int.reduceLE, Int.reduceNeg, Nat.reduceLT, Nat.reduceLeDiff, Int.reduceToNat, Int.cast_ofNat_Int, Nat.reduceBEq, Nat.reduceMul, Nat.reduceEqDiff, reduceCtorEq, Nat.reduceAdd]) | (refine tri_block ?_) | (refine tri_skip ?_; simp only [thenQ, blockQ, if_true, if_false, Nat.reduceEqDiff, reduceCtorEq]) | (refine tri_exit ?_; simp only [thenQ, blockQ, if_true, if_false, Nat.reduceEqDiff, reduceCtorEq]) | (refine tri_cond (by simp only [push_cast, exists_eq_left', Int.reduceEq, Int.reduceLT, Int.reduceLE, Int.reduceNeg, Nat.reduceLT, Nat.reduceLeDiff, Int.reduceToNat, Int.cast_ofNat_Int, Nat.reduceBEq, Nat.reduceMul, Nat.reduceEqDiff, reduceCtorEq, Nat.reduceAdd]; rfl) (fun hb => ?_) (fun hb => ?_) <;> (try simp only [decide_eq_true_eq, decide_eq_false_iff_not, Bool.not_eq_true', Bool.not_eq_false', reduceCtorEq, Bool.true_eq_false, Bool.false_eq_true] at hb) <;> (try omega)) | (refine tri_unk (by simp only [push_cast, exists_eq_left', Int.reduceEq, Int.reduceLT, Int.reduceLE, Int.reduceNeg, Nat.reduceLT, Nat.reduceLeDiff, Int.reduceToNat, Int.cast_ofNat_Int, Nat.reduceBEq, Nat.reduceMul, Nat.reduceEqDiff, reduceCtorEq, Nat.reduceAdd]) ?_ ?_) | (refine tri_ret ?_; simp only [hnl, push_cast, exists_eq_left', Int.reduceEq, Int.reduceLT, Int.reduceLE, Int.reduceNeg, Nat.reduceLT, Nat.reduceLeDiff, Int.reduceToNat, Int.cast_ofNat_Int, Nat.reduceBEq, Nat.reduceMul, Nat.reduceEqDiff, reduceCtorEq, Nat.reduceAdd]) | (refine And.intro (by first | omega | (unfold InR; omega) | assumption | decide | exact ⟨_, _, rfl⟩) ?_) | (refine ⟨fun hc => ?_, fun hc => ?_⟩) | (intro hc; try omega))
  · replace hnl := And.intro hnl he
    repeat' (first | (refine goK (by assumption) ?_; iterate 4 (try clear hK K)) | (refine tri_seqk fun K hK => ?_) | ((first | (refine tri_region hE rfl ?_) | ((first | (refine tri_drawP hE 1 rfl rfl (by kernel_rfl) ?_) | (refine tri_drawP hE 2 rfl rfl (by kernel_rfl) ?_) | (refine tri_drawP hE 3 rfl rfl (by kernel_rfl) ?_) | (refine tri_drawP hE 4 rfl rfl (by kernel_rfl) ?_)); simp only [List.length_cons, List.length_nil, Nat.reduceAdd, Nat.reduceSub, List.take_succ_cons, List.take_zero, List.drop_succ_cons, List.drop_zero])); simp +contextual only [hnl, ↓runK_nil, ↓runK_plain, ↓runK_guard, ↓runQ_nil, ↓runQ_plain, ↓runQ_guard, push_cast, exists_eq_left', Int.reduceEq, Int.reduceLT, Int.reduceLE, Int.reduceNeg, Nat.reduceLT, Nat.reduceLeDiff, Int.reduceToNat, Int.cast_ofNat_Int, Nat.reduceBEq, Nat.reduceMul, Nat.reduceEqDiff, reduceCtorEq, Nat.reduceAdd]) | (refine tri_block ?_) | (refine tri_skip ?_; simp only [thenQ, blockQ, if_true, if_false, Nat.reduceEqDiff, reduceCtorEq]) | (refine tri_exit ?_; simp only [thenQ, blockQ, if_true, if_false, Nat.reduceEqDiff, reduceCtorEq]) | (refine tri_cond (by simp only [push_cast, exists_eq_left', Int.reduceEq, Int.reduceLT, Int.reduceLE, Int.reduceNeg, Nat.reduceLT, Nat.reduceLeDiff, Int.reduceToNat, Int.cast_ofNat_Int, Nat.reduceBEq, Nat.reduceMul, Nat.reduceEqDiff, reduceCtorEq, Nat.reduceAdd]; rfl) (fun hb => ?_) (fun hb => ?_) <;> (try simp only [decide_eq_true_eq, decide_eq_false_iff_not, Bool.not_eq_true', Bool.not_eq_false', reduceCtorEq, Bool.true_eq_false, Bool.false_eq_true] at hb) <;> (try omega)) | (refine tri_unk (by simp only [push_cast, exists_eq_left', Int.reduceEq, Int.reduceLT, Int.reduceLE, Int.reduceNeg, Nat.reduceLT, Nat.reduceLeDiff, Int.reduceToNat, Int.cast_ofNat_Int, Nat.reduceBEq, Nat.reduceMul, Nat.reduceEqDiff, reduceCtorEq, Nat.reduceAdd]) ?_ ?_) | (refine tri_ret ?_; simp only [hnl, push_cast, exists_eq_left', Int.reduceEq, Int.reduceLT, Int.reduceLE, Int.reduceNeg, Nat.reduceLT, Nat.reduceLeDiff, Int.reduceToNat, Int.cast_ofNat_Int, Nat.reduceBEq, Nat.reduceMul, Nat.reduceEqDiff, reduceCtorEq, Nat.reduceAdd]) | (refine And.intro (by first | omega | (unfold InR; omega) | assumption | decide | exact ⟨_, _, rfl⟩) ?_) | (refine ⟨fun hc => ?_, fun hc => ?_⟩) | (intro hc; try omega))
end Go.Proofs.Ytnicofjegkkppaa
