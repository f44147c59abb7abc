/- Sums of rows and columns, best answers to prices. Conditions: in each contract. -/
import Derived.Test.YtikjejmekfpofaaG1
import Derived.Test.YtikjejmekfpofaaG2
namespace Go.Proofs.Ytikjejmekfpofaa
open Go.RowKit Go.VS
set_option linter.unusedSimpArgs false
set_option linter.unusedVariables false

/-- The list of f 0 .. f (n - 1). -/
def tbl {α : Type} (n : Nat) (f : Nat → α) : List α := (List.range n).map f

theorem tbl_len {α : Type} (n : Nat) (f : Nat → α) : (tbl n f).length = n := by simp [tbl]
theorem tbl_get {α : Type} {n i : Nat} (f : Nat → α) (d : α) (h : i < n) : (tbl n f).getD i d = f i := by simp [tbl, List.getD_eq_getElem?_getD, h]
theorem tbl_congr {α : Type} {n : Nat} {f g : Nat → α} (h : ∀ i, i < n → f i = g i) : tbl n f = tbl n g := List.map_congr_left fun i hi => h i (List.mem_range.1 hi)
theorem tbl_succ {α : Type} (n : Nat) (f : Nat → α) : tbl (n + 1) f = tbl n f ++ [f n] := by simp [tbl, List.range_succ]
theorem tbl_zero {α : Type} (f : Nat → α) : tbl 0 f = [] := rfl
theorem tbl_set {α : Type} {n i : Nat} (f : Nat → α) (v : α) : (tbl n f).set i v = tbl n (fun j => if j = i then v else f j) := by
  apply List.ext_getElem?
  intro j
  rw [List.getElem?_set]
  simp only [tbl, List.length_map, List.length_range, List.getElem?_map]
  by_cases hj : j < n
  · by_cases h : i = j
    · subst h; simp [hj]
    · have h' : ¬ j = i := fun e => h e.symm
      simp [h, h', hj]
  · have : (List.range n)[j]? = none := by simp; omega
    by_cases h : i = j
    · subst h; simp [hj]
    · simp [h, hj]
theorem tbl_const {α : Type} (n : Nat) (v : α) : tbl n (fun _ => v) = List.replicate n v := by simp [tbl, List.map_const']
theorem list_tbl {α : Type} (l : List α) (d : α) : l = tbl l.length (fun i => l.getD i d) := by
  apply List.ext_getElem (by simp [tbl])
  intro i h1 h2
  simp [tbl, List.getD_eq_getElem?_getD, h1]
theorem map_tbl {α β : Type} (l : List α) (d : α) (g : α → β) : l.map g = tbl l.length (fun i => g (l.getD i d)) := by
  conv => lhs; rw [list_tbl l d]
  simp [tbl]

theorem lsum_append (a b : List Int) : lsum (a ++ b) = lsum a + lsum b := by
  induction a with
  | nil => simp [lsum]
  | cons x a ih => simp only [List.cons_append, lsum, ih]; omega

def rowsP (p : List (List Int)) : List Int := p.map lsum
def colP (p : List (List Int)) (c : Nat) : Int := lsum (p.map fun r => r.getD c 0)
def colsP (p : List (List Int)) : List Int := tbl (wid p) (colP p)

theorem colP_take {p : List (List Int)} {i : Nat} (h : i < p.length) (c : Nat) : colP (p.take (i + 1)) c = colP (p.take i) c + (p.getD i []).getD c 0 := by
  unfold colP
  rw [List.map_take, List.map_take, lsum_take _ _ (by simpa using h)]
  congr 1
  simp [List.getD_eq_getElem?_getD, h]

theorem InPlan.sumR {p : List (List Int)} (h : InPlan p) {i : Nat} (hi : i < p.length) (j : Nat) : 0 ≤ lsum ((p.getD i []).take j) ∧ lsum ((p.getD i []).take j) ≤ 750 := by
  have h1 := lsum_bound 150 (by omega) ((p.getD i []).take j) (fun x hx => h.mem _ (getD_mem [] hi) x (List.mem_of_mem_take hx))
  have h2 := h.row hi
  have h3 := h.cols
  have h4 : ((p.getD i []).take j).length ≤ 5 := by rw [List.length_take]; omega
  omega

theorem InPlan.sumC {p : List (List Int)} (h : InPlan p) {c : Nat} (hc : c < wid p) (i : Nat) : 0 ≤ colP (p.take i) c ∧ colP (p.take i) c ≤ 750 := by
  unfold colP
  have h1 := lsum_bound 150 (by omega) ((p.take i).map fun r => r.getD c 0) (fun x hx => by
    obtain ⟨r, hr, rfl⟩ := List.mem_map.1 hx
    have hr' := List.mem_of_mem_take hr
    exact h.mem r hr' _ (getD_mem 0 (by rw [h.len r hr']; exact hc)))
  have h3 := h.rows
  have h4 : ((p.take i).map fun r => r.getD c 0).length ≤ 5 := by rw [List.length_map, List.length_take]; omega
  omega

@[push_cast] def endsCon : Con := ⟨[.dat (.sl (.sl .int))], fun (x : List (List Int) × Unit) => InPlan x.1, fun (x : List (List Int) × Unit) => { res := [.own (.flat 3 .int (rowsP x.1)), .own (.flat 3 .int (colsP x.1))] }⟩

theorem ends_spec : FnSpec Try.prog 36 endsCon := by
  refine FnSpec.of_tri' (E := know [] [] [] [12, 17]) (know_ok all_nil all_nil all_nil) Try.func36 rfl rfl (by kernel_rfl) ?_
  intro C x hE hnl hfit hpre
  simp only [Try.ntmps36, Try.results36, maxLen, Nat.reduceSub, Nat.reducePow, Nat.reduceAdd, Int.cast_ofNat_Int, push_cast] at hnl hfit hpre ⊢
  obtain ⟨(p : List (List Int)), _⟩ := x
  dsimp only at hfit hpre ⊢
  have hr := hpre.rows
  have hc := hpre.cols
  have hw : (p.getD 0 []).length = wid p := rfl
  repeat' (first|(refine goK (by assumption) ?_; iterate 4 (try clear hK K))|(refine tri_seqk fun K hK => ?_)|((first|refine tri_region hE rfl ?_|refine tri_ret ?_|((first|refine tri_drawP hE 1 rfl rfl (by kernel_rfl) ?_|refine tri_drawP hE 2 rfl rfl (by kernel_rfl) ?_|refine tri_drawP hE 3 rfl rfl (by kernel_rfl) ?_|refine tri_drawP hE 4 rfl rfl (by kernel_rfl) ?_); simp only [List.length_cons, List.length_nil, Nat.reduceAdd, Nat.reduceSub, List.take_succ_cons, List.take_zero, List.drop_succ_cons, List.drop_zero])); simp +contextual only [hnl, ↓kN, ↓kP, ↓kG, ↓qN, ↓qP, ↓qG, push_cast, Int.reduceEq, Int.reduceLT, Int.reduceLE, Int.reduceNeg, Nat.reduceLT, Nat.reduceLeDiff, Int.reduceToNat, Int.cast_ofNat_Int, Nat.reduceBEq, Nat.reduceMul, Nat.reduceEqDiff, reduceCtorEq, Nat.reduceAdd])|refine tri_block ?_|((first|refine tri_skip ?_|refine tri_exit ?_); simp only [thenQ, blockQ, if_true, if_false, Nat.reduceEqDiff, reduceCtorEq])|(refine tri_cond (by rfl) (fun hb => ?_) (fun hb => ?_) <;> (try simp only [decide_eq_true_eq, decide_eq_false_iff_not, Bool.not_eq_true', Bool.not_eq_false', reduceCtorEq, Bool.true_eq_false, Bool.false_eq_true] at hb) <;> (try omega))|refine tri_unk (by rfl) ?_ ?_|refine And.intro (by first|omega|(unfold InR; omega)|assumption|decide|exact ⟨_, _, rfl⟩) ?_|(refine ⟨fun hc => ?_, fun hc => ?_⟩)|(intro hc; try omega))
  refine tri_thaw 4 12 12 (by simp only [push_cast, Int.reduceEq, Int.reduceLT, Int.reduceLE, Int.reduceNeg, Nat.reduceLT, Nat.reduceLeDiff, Int.reduceToNat, Int.cast_ofNat_Int, Nat.reduceBEq, Nat.reduceMul, Nat.reduceEqDiff, reduceCtorEq, Nat.reduceAdd]; rfl) (by omega) ?_
  refine tri_thaw 5 17 17 (by simp only [push_cast, Int.reduceEq, Int.reduceLT, Int.reduceLE, Int.reduceNeg, Nat.reduceLT, Nat.reduceLeDiff, Int.reduceToNat, Int.cast_ofNat_Int, Nat.reduceBEq, Nat.reduceMul, Nat.reduceEqDiff, reduceCtorEq, Nat.reduceAdd]; rfl) (by omega) ?_
  refine tri_loopI (fun i : Nat => AS.of [(4, .one (.ref 12)), (5, .one (.ref 17)), (18, .one (.val (.sl (.sl .int)) p)), (19, .I p.length), (20, .I i)]
    [(12, .flat 3 .int (tbl p.length fun r => if r < i then lsum (p.getD r []) else 0)), (17, .flat 3 .int (tbl (wid p) fun c => colP (p.take i) c))] []) (fun i => i ≤ p.length) (fun i => p.length - i) 0 (Nat.zero_le _) ?_ ?_
  · refine weak_of ?_ ?_ ?_ <;> simp only [push_cast, Int.reduceEq, Int.reduceLT, Int.reduceLE, Int.reduceNeg, Nat.reduceLT, Nat.reduceLeDiff, Int.reduceToNat, Int.cast_ofNat_Int, Nat.reduceBEq, Nat.reduceMul, Nat.reduceEqDiff, reduceCtorEq, Nat.reduceAdd]
    refine ⟨.inl (congrArg _ ?_), .inl (congrArg _ ?_)⟩
    · rw [← tbl_const]
      exact tbl_congr fun r _ => by rw [if_neg (Nat.not_lt_zero r)]
    · rw [← tbl_const]
      exact tbl_congr fun c _ => by simp [colP, lsum]
  intro i hi K' hL
  repeat' (first|(refine goK (by assumption) ?_; iterate 4 (try clear hK K))|(refine tri_seqk fun K hK => ?_)|((first|refine tri_region hE rfl ?_|refine tri_ret ?_|((first|refine tri_drawP hE 1 rfl rfl (by kernel_rfl) ?_|refine tri_drawP hE 2 rfl rfl (by kernel_rfl) ?_|refine tri_drawP hE 3 rfl rfl (by kernel_rfl) ?_|refine tri_drawP hE 4 rfl rfl (by kernel_rfl) ?_); simp only [List.length_cons, List.length_nil, Nat.reduceAdd, Nat.reduceSub, List.take_succ_cons, List.take_zero, List.drop_succ_cons, List.drop_zero])); simp +contextual only [hnl, ↓kN, ↓kP, ↓kG, ↓qN, ↓qP, ↓qG, push_cast, Int.reduceEq, Int.reduceLT, Int.reduceLE, Int.reduceNeg, Nat.reduceLT, Nat.reduceLeDiff, Int.reduceToNat, Int.cast_ofNat_Int, Nat.reduceBEq, Nat.reduceMul, Nat.reduceEqDiff, reduceCtorEq, Nat.reduceAdd])|refine tri_block ?_|((first|refine tri_skip ?_|refine tri_exit ?_); simp only [thenQ, blockQ, if_true, if_false, Nat.reduceEqDiff, reduceCtorEq])|(refine tri_cond (by rfl) (fun hb => ?_) (fun hb => ?_) <;> (try simp only [decide_eq_true_eq, decide_eq_false_iff_not, Bool.not_eq_true', Bool.not_eq_false', reduceCtorEq, Bool.true_eq_false, Bool.false_eq_true] at hb) <;> (try omega))|refine tri_unk (by rfl) ?_ ?_|refine And.intro (by first|omega|(unfold InR; omega)|assumption|decide|exact ⟨_, _, rfl⟩) ?_|(refine ⟨fun hc => ?_, fun hc => ?_⟩)|(intro hc; try omega))
  · have hi' : i < p.length := by omega
    have hwi := hpre.row hi'
    refine tri_loopI (fun j : Nat => AS.of [(4, .one (.ref 12)), (5, .one (.ref 17)), (6, .I i), (18, .one (.val (.sl (.sl .int)) p)), (19, .I p.length), (20, .I i), (25, .one (.val (.sl .int) (p.getD i []))), (26, .I (p.getD i []).length), (27, .I j)]
      [(12, .flat 3 .int (tbl p.length fun r => if r < i then lsum (p.getD r []) else if r = i then lsum ((p.getD i []).take j) else 0)), (17, .flat 3 .int (tbl (wid p) fun c => colP (p.take i) c + if c < j then (p.getD i []).getD c 0 else 0))] [])
      (fun j => j ≤ wid p) (fun j => wid p - j) 0 (Nat.zero_le _) ?_ ?_
    · refine weak_of ?_ ?_ ?_ <;> simp only [push_cast, Int.reduceEq, Int.reduceLT, Int.reduceLE, Int.reduceNeg, Nat.reduceLT, Nat.reduceLeDiff, Int.reduceToNat, Int.cast_ofNat_Int, Nat.reduceBEq, Nat.reduceMul, Nat.reduceEqDiff, reduceCtorEq, Nat.reduceAdd]
      refine ⟨.inl (congrArg _ (tbl_congr fun r _ => ?_)), .inl (congrArg _ (tbl_congr fun c _ => ?_))⟩
      · simp only [lsum, ite_self]
      · rw [if_neg (Nat.not_lt_zero c), Int.add_zero]
    intro j hj K2 hL2
    have e1 : (tbl p.length fun r => if r < i then lsum (p.getD r []) else if r = i then lsum ((p.getD i []).take j) else 0).getD i 0 = lsum ((p.getD i []).take j) := by
      rw [tbl_get _ _ hi', if_neg (Nat.lt_irrefl _), if_pos rfl]
    have e2 : j < wid p → (tbl (wid p) fun c => colP (p.take i) c + if c < j then (p.getD i []).getD c 0 else 0).getD j 0 = colP (p.take i) j := fun hj' => by
      rw [tbl_get _ _ hj', if_neg (Nat.lt_irrefl _), Int.add_zero]
    have s1 := hpre.sumR hi' j
    replace hnl := And.intro hnl (And.intro e1 (And.intro (tbl_len p.length fun r => if r < i then lsum (p.getD r []) else if r = i then lsum ((p.getD i []).take j) else 0) (tbl_len (wid p) fun c => colP (p.take i) c + if c < j then (p.getD i []).getD c 0 else 0)))
    repeat' (first|(refine goK (by assumption) ?_; iterate 4 (try clear hK K))|(refine tri_seqk fun K hK => ?_)|((first|refine tri_region hE rfl ?_|refine tri_ret ?_|((first|refine tri_drawP hE 1 rfl rfl (by kernel_rfl) ?_|refine tri_drawP hE 2 rfl rfl (by kernel_rfl) ?_|refine tri_drawP hE 3 rfl rfl (by kernel_rfl) ?_|refine tri_drawP hE 4 rfl rfl (by kernel_rfl) ?_); simp only [List.length_cons, List.length_nil, Nat.reduceAdd, Nat.reduceSub, List.take_succ_cons, List.take_zero, List.drop_succ_cons, List.drop_zero])); simp +contextual only [hnl, ↓kN, ↓kP, ↓kG, ↓qN, ↓qP, ↓qG, push_cast, Int.reduceEq, Int.reduceLT, Int.reduceLE, Int.reduceNeg, Nat.reduceLT, Nat.reduceLeDiff, Int.reduceToNat, Int.cast_ofNat_Int, Nat.reduceBEq, Nat.reduceMul, Nat.reduceEqDiff, reduceCtorEq, Nat.reduceAdd])|refine tri_block ?_|((first|refine tri_skip ?_|refine tri_exit ?_); simp only [thenQ, blockQ, if_true, if_false, Nat.reduceEqDiff, reduceCtorEq])|(refine tri_cond (by rfl) (fun hb => ?_) (fun hb => ?_) <;> (try simp only [decide_eq_true_eq, decide_eq_false_iff_not, Bool.not_eq_true', Bool.not_eq_false', reduceCtorEq, Bool.true_eq_false, Bool.false_eq_true] at hb) <;> (try omega))|refine tri_unk (by rfl) ?_ ?_|refine And.intro (by first|omega|(unfold InR; omega)|assumption|decide|exact ⟨_, _, rfl⟩) ?_|(refine ⟨fun hc => ?_, fun hc => ?_⟩)|(intro hc; try omega))
    · have hj' : j < wid p := by omega
      have s2 := hpre.at hi' hj'
      have s3 := hpre.sumC hj' i
      have s4 : InR ((tbl (wid p) fun c => colP (p.take i) c + if c < j then (p.getD i []).getD c 0 else 0).getD j 0 + (p.getD i []).getD j 0) := by
        rw [e2 hj']
        unfold InR
        omega
      refine ⟨by unfold InR; omega, ?_⟩
      repeat' (first|(refine goK (by assumption) ?_; iterate 4 (try clear hK K))|(refine tri_seqk fun K hK => ?_)|((first|refine tri_region hE rfl ?_|refine tri_ret ?_|((first|refine tri_drawP hE 1 rfl rfl (by kernel_rfl) ?_|refine tri_drawP hE 2 rfl rfl (by kernel_rfl) ?_|refine tri_drawP hE 3 rfl rfl (by kernel_rfl) ?_|refine tri_drawP hE 4 rfl rfl (by kernel_rfl) ?_); simp only [List.length_cons, List.length_nil, Nat.reduceAdd, Nat.reduceSub, List.take_succ_cons, List.take_zero, List.drop_succ_cons, List.drop_zero])); simp +contextual only [hnl, ↓kN, ↓kP, ↓kG, ↓qN, ↓qP, ↓qG, push_cast, Int.reduceEq, Int.reduceLT, Int.reduceLE, Int.reduceNeg, Nat.reduceLT, Nat.reduceLeDiff, Int.reduceToNat, Int.cast_ofNat_Int, Nat.reduceBEq, Nat.reduceMul, Nat.reduceEqDiff, reduceCtorEq, Nat.reduceAdd])|refine tri_block ?_|((first|refine tri_skip ?_|refine tri_exit ?_); simp only [thenQ, blockQ, if_true, if_false, Nat.reduceEqDiff, reduceCtorEq])|(refine tri_cond (by rfl) (fun hb => ?_) (fun hb => ?_) <;> (try simp only [decide_eq_true_eq, decide_eq_false_iff_not, Bool.not_eq_true', Bool.not_eq_false', reduceCtorEq, Bool.true_eq_false, Bool.false_eq_true] at hb) <;> (try omega))|refine tri_unk (by rfl) ?_ ?_|refine And.intro (by first|omega|(unfold InR; omega)|assumption|decide|exact ⟨_, _, rfl⟩) ?_|(refine ⟨fun hc => ?_, fun hc => ?_⟩)|(intro hc; try omega))
      refine hL2 _ (j + 1) (by omega) (by omega) ?_
      refine weak_of ?_ ?_ ?_ <;> simp only [push_cast, Int.reduceEq, Int.reduceLT, Int.reduceLE, Int.reduceNeg, Nat.reduceLT, Nat.reduceLeDiff, Int.reduceToNat, Int.cast_ofNat_Int, Nat.reduceBEq, Nat.reduceMul, Nat.reduceEqDiff, reduceCtorEq, Nat.reduceAdd]
      rw [e2 hj', tbl_set, tbl_set]
      refine ⟨.inl (congrArg _ (tbl_congr fun r _ => ?_)), .inl (congrArg _ (tbl_congr fun c _ => ?_))⟩
      · by_cases h : r = i
        · subst h
          rw [if_pos rfl, if_neg (Nat.lt_irrefl _), if_pos rfl, lsum_take _ _ (by omega)]
        · rw [if_neg h, if_neg h, if_neg h]
      · by_cases h : c = j
        · subst h
          rw [if_pos rfl, if_pos (Nat.lt_succ_self _)]
        · rw [if_neg h]
          by_cases h2 : c < j
          · rw [if_pos h2, if_pos (by omega)]
          · rw [if_neg h2, if_neg (by omega)]
    · have hjw : j = wid p := by omega
      refine hL _ (i + 1) (by omega) (by omega) ?_
      refine weak_of ?_ ?_ ?_ <;> simp only [push_cast, Int.reduceEq, Int.reduceLT, Int.reduceLE, Int.reduceNeg, Nat.reduceLT, Nat.reduceLeDiff, Int.reduceToNat, Int.cast_ofNat_Int, Nat.reduceBEq, Nat.reduceMul, Nat.reduceEqDiff, reduceCtorEq, Nat.reduceAdd]
      refine ⟨.inl (congrArg _ (tbl_congr fun r _ => ?_)), .inl (congrArg _ (tbl_congr fun c hc => ?_))⟩
      · by_cases h : r = i
        · subst h
          rw [if_neg (Nat.lt_irrefl _), if_pos rfl, if_pos (Nat.lt_succ_self _), List.take_of_length_le (by omega)]
        · rw [if_neg h]
          by_cases h2 : r < i
          · rw [if_pos h2, if_pos (by omega)]
          · rw [if_neg h2, if_neg (by omega)]
      · rw [if_pos (by omega), colP_take hi']
  · obtain rfl : i = p.length := by omega
    refine ⟨congrArg _ ?_, congrArg _ ?_⟩
    · rw [rowsP, map_tbl p []]
      exact tbl_congr fun r hr => if_pos hr
    · rw [List.take_of_length_le (Nat.le_refl _)]
      rfl

@[push_cast] def equalCon : Con := ⟨[.dat (.sl .int), .dat (.sl .int)], fun _ => True, fun (x : List Int × List Int × Unit) => { res := [.val .bool (decide (x.1 = x.2.1))] }⟩

theorem equal_spec : FnSpec Try.prog 24 equalCon := by
  refine FnSpec.of_tri' (E := know [] [] [] []) (know_ok all_nil all_nil all_nil) Try.func24 rfl rfl (by kernel_rfl) ?_
  intro C x hE hnl hfit hpre
  simp only [Try.ntmps24, Try.results24, maxLen, Nat.reduceSub, Nat.reducePow, Nat.reduceAdd, Int.cast_ofNat_Int, push_cast] at hnl hfit hpre ⊢
  obtain ⟨(a : List Int), (b : List Int), _⟩ := x
  dsimp only at hfit hpre ⊢
  repeat' (first|(refine goK (by assumption) ?_; iterate 4 (try clear hK K))|(refine tri_seqk fun K hK => ?_)|((first|refine tri_region hE rfl ?_|refine tri_ret ?_|((first|refine tri_drawP hE 1 rfl rfl (by kernel_rfl) ?_|refine tri_drawP hE 2 rfl rfl (by kernel_rfl) ?_|refine tri_drawP hE 3 rfl rfl (by kernel_rfl) ?_|refine tri_drawP hE 4 rfl rfl (by kernel_rfl) ?_); simp only [List.length_cons, List.length_nil, Nat.reduceAdd, Nat.reduceSub, List.take_succ_cons, List.take_zero, List.drop_succ_cons, List.drop_zero])); simp +contextual only [hnl, ↓kN, ↓kP, ↓kG, ↓qN, ↓qP, ↓qG, push_cast, Int.reduceEq, Int.reduceLT, Int.reduceLE, Int.reduceNeg, Nat.reduceLT, Nat.reduceLeDiff, Int.reduceToNat, Int.cast_ofNat_Int, Nat.reduceBEq, Nat.reduceMul, Nat.reduceEqDiff, reduceCtorEq, Nat.reduceAdd])|refine tri_block ?_|((first|refine tri_skip ?_|refine tri_exit ?_); simp only [thenQ, blockQ, if_true, if_false, Nat.reduceEqDiff, reduceCtorEq])|(refine tri_cond (by rfl) (fun hb => ?_) (fun hb => ?_) <;> (try simp only [decide_eq_true_eq, decide_eq_false_iff_not, Bool.not_eq_true', Bool.not_eq_false', reduceCtorEq, Bool.true_eq_false, Bool.false_eq_true] at hb) <;> (try omega))|refine tri_unk (by rfl) ?_ ?_|refine And.intro (by first|omega|(unfold InR; omega)|assumption|decide|exact ⟨_, _, rfl⟩) ?_|(refine ⟨fun hc => ?_, fun hc => ?_⟩)|(intro hc; try omega))
  · exact (decide_eq_false fun e => hb (by rw [e])).symm
  have hlen := hb; clear hb
  refine tri_loopI (fun k : Nat => AS.of [(0, .one (.val (.sl .int) a)), (1, .one (.val (.sl .int) b)), (12, .I a.length), (13, .I k)] [] []) (fun k => k ≤ a.length ∧ ∀ j, j < k → a.getD j 0 = b.getD j 0) (fun k => a.length - k) 0 ⟨Nat.zero_le _, by omega⟩ ?_ ?_
  · refine weak_of ?_ ?_ ?_ <;> simp only [push_cast, Int.reduceEq, Int.reduceLT, Int.reduceLE, Int.reduceNeg, Nat.reduceLT, Nat.reduceLeDiff, Int.reduceToNat, Int.cast_ofNat_Int, Nat.reduceBEq, Nat.reduceMul, Nat.reduceEqDiff, reduceCtorEq, Nat.reduceAdd]
  intro k ⟨hk, hj⟩ K' hL
  repeat' (first|(refine goK (by assumption) ?_; iterate 4 (try clear hK K))|(refine tri_seqk fun K hK => ?_)|((first|refine tri_region hE rfl ?_|refine tri_ret ?_|((first|refine tri_drawP hE 1 rfl rfl (by kernel_rfl) ?_|refine tri_drawP hE 2 rfl rfl (by kernel_rfl) ?_|refine tri_drawP hE 3 rfl rfl (by kernel_rfl) ?_|refine tri_drawP hE 4 rfl rfl (by kernel_rfl) ?_); simp only [List.length_cons, List.length_nil, Nat.reduceAdd, Nat.reduceSub, List.take_succ_cons, List.take_zero, List.drop_succ_cons, List.drop_zero])); simp +contextual only [hnl, ↓kN, ↓kP, ↓kG, ↓qN, ↓qP, ↓qG, push_cast, Int.reduceEq, Int.reduceLT, Int.reduceLE, Int.reduceNeg, Nat.reduceLT, Nat.reduceLeDiff, Int.reduceToNat, Int.cast_ofNat_Int, Nat.reduceBEq, Nat.reduceMul, Nat.reduceEqDiff, reduceCtorEq, Nat.reduceAdd])|refine tri_block ?_|((first|refine tri_skip ?_|refine tri_exit ?_); simp only [thenQ, blockQ, if_true, if_false, Nat.reduceEqDiff, reduceCtorEq])|(refine tri_cond (by rfl) (fun hb => ?_) (fun hb => ?_) <;> (try simp only [decide_eq_true_eq, decide_eq_false_iff_not, Bool.not_eq_true', Bool.not_eq_false', reduceCtorEq, Bool.true_eq_false, Bool.false_eq_true] at hb) <;> (try omega))|refine tri_unk (by rfl) ?_ ?_|refine And.intro (by first|omega|(unfold InR; omega)|assumption|decide|exact ⟨_, _, rfl⟩) ?_|(refine ⟨fun hc => ?_, fun hc => ?_⟩)|(intro hc; try omega))
  · exact (decide_eq_false (ne_of_getD 0 hb)).symm
  · refine hL _ (k + 1) ⟨by omega, fun j hj' => ?_⟩ (by omega) ?_
    · rcases Nat.lt_or_ge j k with h3 | h3
      · exact hj j h3
      · have : j = k := by omega
        subst this
        exact hb
    refine weak_of ?_ ?_ ?_ <;> simp only [push_cast, Int.reduceEq, Int.reduceLT, Int.reduceLE, Int.reduceNeg, Nat.reduceLT, Nat.reduceLeDiff, Int.reduceToNat, Int.cast_ofNat_Int, Nat.reduceBEq, Nat.reduceMul, Nat.reduceEqDiff, reduceCtorEq, Nat.reduceAdd]
  · exact (decide_eq_true (eq_of_getD 0 (by omega) fun j hj' => hj j (by omega))).symm

@[push_cast] def sumsCon : Con := ⟨[.dat (.sl (.sl .int))], fun (x : List (List Int) × Unit) => x.1.length ≤ 5 ∧ ∀ r ∈ x.1, ∀ k, InR (lsum (r.take k)), fun (x : List (List Int) × Unit) => { res := [.own (.flat 3 .int (rowsP x.1))] }⟩

/-- Rows and columns exchanged. -/
def flipP (p : List (List Int)) : List (List Int) := tbl (wid p) (fun c => tbl p.length fun i => (p.getD i []).getD c 0)

@[push_cast] def flipCon : Con := ⟨[.dat (.sl (.sl .int))], fun (x : List (List Int) × Unit) => InPlan x.1, fun (x : List (List Int) × Unit) => { res := [.own (.deep 22 3 .int (flipP x.1))] }⟩

end Go.Proofs.Ytikjejmekfpofaa

namespace Go.Proofs.Ytikjejmekfpofaa
open Go.RowKit Go.VS
set_option linter.unusedSimpArgs false
set_option linter.unusedVariables false

/-- The smallest number minus a price, among the first one and the first k. -/
def ansK (r ps : List Int) : Nat → Int
  | 0 => r.getD 0 0 - ps.getD 0 0
  | k + 1 => min (ansK r ps k) (r.getD k 0 - ps.getD k 0)
theorem ansK_one (r ps : List Int) : ansK r ps 1 = r.getD 0 0 - ps.getD 0 0 := by
  simp only [ansK]; omega
def ansV (c : List (List Int)) (ps : List Int) : List Int := tbl c.length fun i => ansK (c.getD i []) ps (wid c)

structure AnsPre (c : List (List Int)) (ps : List Int) : Prop where
  tab : InTab 0 99 c
  len : ps.length = wid c
  rng : ∀ j, j < ps.length → -1000 ≤ ps.getD j 0 ∧ ps.getD j 0 ≤ 1000

theorem inL_at {n lo hi : Int} {l : List Int} (h : InL n lo hi l) : ∀ j, j < l.length → lo ≤ l.getD j 0 ∧ l.getD j 0 ≤ hi := fun j hj => h.2 _ (getD_mem 0 hj)

@[push_cast] def bestCon : Con := ⟨[.dat (.sl (.sl .int)), .dat (.sl .int)], fun (x : List (List Int) × List Int × Unit) => AnsPre x.1 x.2.1, fun (x : List (List Int) × List Int × Unit) => { res := [.own (.flat 3 .int (ansV x.1 x.2.1))] }⟩

/-- The table on the way: i rows are done, and j numbers of the next one. -/
def turnT (c : List (List Int)) (i j : Nat) : List (List Int) := tbl (wid c) fun k => tbl (if k < j then i + 1 else i) fun r => (c.getD r []).getD k 0
theorem turnT_next {c : List (List Int)} {i : Nat} : turnT c i (wid c) = turnT c (i + 1) 0 := tbl_congr fun k hk => by rw [if_pos hk, if_neg (Nat.not_lt_zero k)]
theorem turnT_step {c : List (List Int)} {i j : Nat} : (turnT c i j).set j (tbl i (fun r => (c.getD r []).getD j 0) ++ [(c.getD i []).getD j 0]) = turnT c i (j + 1) := by
  unfold turnT
  rw [tbl_set]
  refine tbl_congr fun k _ => ?_
  by_cases h : k = j
  · subst h
    rw [if_pos rfl, if_pos (Nat.lt_succ_self _), tbl_succ]
  · rw [if_neg h]
    by_cases h2 : k < j
    · rw [if_pos h2, if_pos (by omega)]
    · rw [if_neg h2, if_neg (by omega)]

@[push_cast] def turnCon : Con := ⟨[.dat (.sl (.sl .int))], fun (x : List (List Int) × Unit) => InTab 0 99 x.1, fun (x : List (List Int) × Unit) => { res := [.own (.deep 22 3 .int (flipP x.1))] }⟩

def errRows (c : List (List Int)) (ps : List Int) : Int := if InTab 0 99 c ∧ InL (wid c) (-1000) 1000 ps then 0 else 1
def errCols (c : List (List Int)) (ps : List Int) : Int := if InTab 0 99 c ∧ InL c.length (-1000) 1000 ps then 0 else 1
def bestRows (c : List (List Int)) (ps : List Int) : List Int := if errRows c ps = 0 then ansV c ps else []
def bestCols (c : List (List Int)) (ps : List Int) : List Int := if errCols c ps = 0 then ansV (flipP c) ps else []
section
variable {c : List (List Int)} {ps : List Int}
theorem errRows_0 (h1 : InTab 0 99 c) (h2 : InL (wid c) (-1000) 1000 ps) : errRows c ps = 0 := if_pos ⟨h1, h2⟩
theorem errRows_1 (h : ¬ (InTab 0 99 c ∧ InL (wid c) (-1000) 1000 ps)) : errRows c ps = 1 := if_neg h
theorem errCols_0 (h1 : InTab 0 99 c) (h2 : InL c.length (-1000) 1000 ps) : errCols c ps = 0 := if_pos ⟨h1, h2⟩
theorem errCols_1 (h : ¬ (InTab 0 99 c ∧ InL c.length (-1000) 1000 ps)) : errCols c ps = 1 := if_neg h
theorem bestRows_0 (h : errRows c ps = 0) : bestRows c ps = ansV c ps := if_pos h
theorem bestRows_1 (h : errRows c ps = 1) : bestRows c ps = [] := if_neg (by omega)
theorem bestCols_0 (h : errCols c ps = 0) : bestCols c ps = ansV (flipP c) ps := if_pos h
theorem bestCols_1 (h : errCols c ps = 1) : bestCols c ps = [] := if_neg (by omega)
theorem ansPre_rows (h1 : InTab 0 99 c) (h2 : InL (wid c) (-1000) 1000 ps) : AnsPre c ps := ⟨h1, by have := h2.1; omega, inL_at h2⟩
theorem wid_flip (h : 1 ≤ wid c) : wid (flipP c) = c.length := by
  show ((flipP c).getD 0 []).length = c.length
  unfold flipP
  rw [tbl_get _ _ h, tbl_len]
theorem flip_at {i j : Nat} (hi : i < c.length) (hj : j < wid c) : ((flipP c).getD j []).getD i 0 = (c.getD i []).getD j 0 := by
  unfold flipP
  rw [tbl_get _ _ hj, tbl_get _ _ hi]
theorem flip_len (c : List (List Int)) : (flipP c).length = wid c := tbl_len _ _
theorem inTab_flip {lo hi : Int} (h : InTab lo hi c) : InTab lo hi (flipP c) := by
  have h1 := h.rows
  have h2 := h.cols
  have h3 := wid_flip h2.1
  refine inTab_of (by rw [flip_len]; exact h2) (by rw [h3]; exact h1) fun i hi => ?_
  rw [flip_len] at hi
  refine ⟨by unfold flipP; rw [tbl_get _ _ hi, tbl_len]; exact h3.symm, fun j hj => ?_⟩
  rw [h3] at hj
  rw [flip_at hj hi]
  exact h.at hj hi
theorem ansPre_cols (h1 : InTab 0 99 c) (h2 : InL c.length (-1000) 1000 ps) : AnsPre (flipP c) ps := ⟨inTab_flip h1, by have := h2.1; have := wid_flip h1.cols.1; omega, inL_at h2⟩
theorem inPlan_cost (h : InTab 0 99 c) : InPlan c := inPlan_of h.rows h.cols fun i hi => ⟨h.len hi, fun j hj => by have := h.at hi hj; omega⟩
theorem errRows_flip (h1 : InTab 0 99 c) (h2 : InL c.length (-1000) 1000 ps) : errRows (flipP c) ps = 0 := errRows_0 (inTab_flip h1) (by rw [wid_flip h1.cols.1]; exact h2)
end

@[push_cast] def bestRowsCon : Con := ⟨[.dat (.sl (.sl .int)), .dat (.sl .int)], fun _ => True, fun (x : List (List Int) × List Int × Unit) => { res := [.own (.flat 3 .int (bestRows x.1 x.2.1)), .val .int (errRows x.1 x.2.1)] }⟩
@[push_cast] def bestColsCon : Con := ⟨[.dat (.sl (.sl .int)), .dat (.sl .int)], fun _ => True, fun (x : List (List Int) × List Int × Unit) => { res := [.own (.flat 3 .int (bestCols x.1 x.2.1)), .val .int (errCols x.1 x.2.1)] }⟩

end Go.Proofs.Ytikjejmekfpofaa

namespace Go.Proofs.Ytikjejmekfpofaa
open Go.RowKit Go.VS
set_option linter.unusedSimpArgs false
set_option linter.unusedVariables false

@[push_cast] def pricedCon : Con := ⟨[.dat (.sl .int), .dat .int], fun _ => True, fun (x : List Int × Int × Unit) => { res := [.val .bool (decide (InL x.2.1 (-1000) 1000 x.1))] }⟩

end Go.Proofs.Ytikjejmekfpofaa
