/- The plain law of TopMasses: ends and opposites, what stays, a forest between the same ends, sums in either order. Conditions: in each lemma. -/
import Derived.Test.YtloipnalmkdldaaWm
import Derived.Test.YtloipnalmkdldaaWj
import Derived.Test.YtloipnalmkdldaaFu
namespace Go.Proofs.Ytloipnalmkdldaa
open Go.RowKit Go.VS Go.OT
set_option linter.unusedSimpArgs false
set_option linter.unusedVariables false

theorem wid_flipM {p : List (List Int)} (h : InPlan p) : wid (flipP p) = p.length := by
  unfold wid
  rw [flip_row p (by have := h.cols; omega), tbl_len]
theorem flip_flipM {p : List (List Int)} (h : InPlan p) : flipP (flipP p) = p := by
  conv => rhs; rw [list_tbl p []]
  unfold flipP
  rw [show wid (tbl (wid p) fun c => tbl p.length fun i => (p.getD i []).getD c 0) = p.length from wid_flipM h]
  refine tbl_congr fun i hi => ?_
  conv => rhs; rw [list_tbl (p.getD i []) 0, h.row hi]
  rw [tbl_len]
  refine tbl_congr fun c hc => ?_
  rw [tbl_get _ _ hc, tbl_get _ _ hi]
theorem cols_flipM {p : List (List Int)} (h : InPlan p) : colsP (flipP p) = rowsP p := by
  rw [← flip_sums, flip_flipM h]

/-! ### Sums -/
theorem lsum_tblS (f : Nat → Int) : ∀ n, lsum (tbl n f) = sg n f
  | 0 => rfl
  | n + 1 => by
    rw [lsum_tbl_succ, lsum_tblS f n]
    rfl
theorem rows_tbl {R C : Nat} {p : List (List Int)} (h : Sz R C p) : rowsP p = tbl R fun i => rowS C (gt p) i := by
  unfold rowsP
  rw [map_tbl p [], h.rows]
  exact tbl_congr fun i hi => (row_lsum h hi).symm
theorem cols_tbl {R C : Nat} {p : List (List Int)} (h : Sz R C p) (hR : 0 < R) : colsP p = tbl C fun j => colS R (gt p) j := by
  unfold colsP
  rw [sz_wid h hR]
  refine tbl_congr fun j hj => ?_
  unfold colP
  rw [map_tbl p [], lsum_tblS, h.rows]
  rfl
theorem all_sum {R C : Nat} {p : List (List Int)} (h : Sz R C p) (hR : 0 < R) : lsum (rowsP p) = lsum (colsP p) := by
  rw [rows_tbl h, cols_tbl h hR, lsum_tblS, lsum_tblS]
  exact sg_swap _ _ _
theorem plan_sz {p : List (List Int)} (h : InPlan p) : Sz p.length (wid p) p := (plan_foi h).sz
theorem check_own {p : List (List Int)} (h : InPlan p) (ha : errMass (rowsP p) = 0) (hb : errMass (colsP p) = 0) : errCheck (rowsP p) (colsP p) p = 0 := by
  unfold errCheck
  rw [if_pos (errMass_ok ha), if_pos (errMass_ok hb), if_pos (okPlan_iff.2 h), if_pos (all_sum (plan_sz h) (by have := h.rows; omega)), if_pos ⟨rfl, rfl⟩]
theorem check_back {p : List (List Int)} (h : InPlan p) (ha : errMass (rowsP p) = 0) (hb : errMass (colsP p) = 0) : errCheck (colsP p) (rowsP p) (flipP p) = 0 := by
  have := check_own h.flip (by rw [flip_sums]; exact hb) (by rw [cols_flipM h]; exact ha)
  rwa [flip_sums, cols_flipM h] at this
theorem pair_own {p : List (List Int)} (h : InPlan p) (ha : errMass (rowsP p) = 0) (hb : errMass (colsP p) = 0) : errPair (rowsP p) (colsP p) = 0 := by
  unfold errPair
  rw [if_pos (errMass_ok ha), if_pos (errMass_ok hb), if_pos (all_sum (plan_sz h) (by have := h.rows; omega))]
/-- The forest of a plan between masses is a plan between them. -/
theorem check_forest {p : List (List Int)} (h : InPlan p) (ha : errMass (rowsP p) = 0) (hb : errMass (colsP p) = 0) : errPlan (forestV p) = 0 ∧ isFoE (forestV p) = true ∧ errCheck (rowsP p) (colsP p) (forestV p) = 0 := by
  obtain ⟨hI, hb0⟩ := forestV_ok h
  have hR := h.rows
  have hC := h.cols
  have hw := sz_wid hI.sz (by omega)
  have hl := hI.sz.rows
  have hrows : rowsP (forestV p) = rowsP p := by
    rw [rows_tbl hI.sz, rows_tbl (plan_sz h)]
    exact tbl_congr fun i hi => hI.row i hi
  have hcols : colsP (forestV p) = colsP p := by
    rw [cols_tbl hI.sz (by omega), cols_tbl (plan_sz h) (by omega)]
    exact tbl_congr fun j hj => hI.col j hj
  have hin : InPlan (forestV p) := by
    refine inPlan_of (by omega) (by omega) fun i hi => ?_
    rw [hw]
    refine ⟨hI.sz.cols i (by omega), fun j hj => ?_⟩
    have h1 : gt (forestV p) i j ≤ rowS (wid p) (gt (forestV p)) i := sg_at (f := fun j => gt (forestV p) i j) (wid p) (fun j hj => hI.nn i j (by omega) hj) j hj
    have h2 := hI.row i (by omega)
    have h3 : (rowsP p).getD i 0 = rowS (wid p) (gt p) i := by
      rw [rows_tbl (plan_sz h)]
      exact tbl_get _ _ (by omega)
    have h4 := okMass_mem (errMass_ok ha) _ (getD_mem (0 : Int) (show i < (rowsP p).length by rw [rows_tbl (plan_sz h), tbl_len]; omega))
    have h5 := hI.nn i j (by omega) hj
    show 0 ≤ gt (forestV p) i j ∧ gt (forestV p) i j ≤ 150
    omega
  have he := errPlan_0 hin
  refine ⟨he, decide_eq_true ⟨he, hb0⟩, ?_⟩
  have := check_own hin (by rw [hrows]; exact ha) (by rw [hcols]; exact hb)
  rwa [hrows, hcols] at this

/-! ### What stays -/
def diag (b : List Int) : List (List Int) := tbl b.length fun i => tbl b.length fun j => if j = i then b.getD i 0 else 0
def diagK (b : List Int) (k : Nat) : List (List Int) := tbl b.length fun i => if i < k then tbl b.length (fun j => if j = i then b.getD i 0 else 0) else []
def smallK (b : List Int) (k : Nat) : Bool := (List.range k).all fun i => decide (b.getD i 0 ≤ 150)
theorem diagK_zero (b : List Int) : diagK b 0 = List.replicate b.length [] := by
  rw [← tbl_const]
  exact tbl_congr fun i _ => if_neg (Nat.not_lt_zero i)
theorem diagK_done (b : List Int) : diagK b b.length = diag b := tbl_congr fun i hi => if_pos hi
theorem diagK_len (b : List Int) (k : Nat) : (diagK b k).length = b.length := tbl_len _ _
theorem diagK_row {b : List Int} {k : Nat} (hk : k < b.length) : (List.replicate b.length (0 : Int)).set k (b.getD k 0) = tbl b.length (fun j => if j = k then b.getD k 0 else 0) := by
  rw [← tbl_const, tbl_set]
theorem diagK_set {b : List Int} {k : Nat} : (diagK b k).set k (tbl b.length fun j => if j = k then b.getD k 0 else 0) = diagK b (k + 1) := by
  unfold diagK
  rw [tbl_set]
  refine tbl_congr fun i hi => ?_
  by_cases h : i = k
  · rw [if_pos h, if_pos (by omega), h]
  · rw [if_neg h]
    by_cases h2 : i < k
    · rw [if_pos h2, if_pos (by omega)]
    · rw [if_neg h2, if_neg (by omega)]
theorem smallK_succ (b : List Int) (k : Nat) : smallK b (k + 1) = (smallK b k && decide (b.getD k 0 ≤ 150)) := by
  unfold smallK
  rw [List.range_succ, List.all_append, List.all_cons, List.all_nil, Bool.and_true]
theorem smallK_at {b : List Int} {k i : Nat} (h : smallK b k = true) (hi : i < k) : b.getD i 0 ≤ 150 := by
  unfold smallK at h
  rw [List.all_eq_true] at h
  exact of_decide_eq_true (h i (List.mem_range.2 hi))
theorem diag_at {b : List Int} {i j : Nat} (hi : i < b.length) (hj : j < b.length) : ((diag b).getD i []).getD j 0 = if j = i then b.getD i 0 else 0 := by
  unfold diag
  rw [tbl_get _ _ hi, tbl_get _ _ hj]
theorem diag_wid {b : List Int} (h : 0 < b.length) : wid (diag b) = b.length := by
  unfold wid diag
  rw [tbl_get _ _ h, tbl_len]
theorem one_sum (v : Int) (i : Nat) : ∀ n, lsum (tbl n fun j => if j = i then v else 0) = if i < n then v else 0
  | 0 => by rw [if_neg (Nat.not_lt_zero i)]; rfl
  | n + 1 => by
    rw [lsum_tbl_succ, one_sum v i n]
    by_cases h : n = i
    · rw [if_pos h, if_neg (by omega), if_pos (by omega), Int.zero_add]
    · rw [if_neg h, Int.add_zero]
      by_cases h2 : i < n
      · rw [if_pos h2, if_pos (by omega)]
      · rw [if_neg h2, if_neg (by omega)]
theorem diag_rows (b : List Int) : rowsP (diag b) = b := by
  conv => rhs; rw [list_tbl b 0]
  unfold rowsP diag
  rw [tbl, List.map_map]
  refine List.map_congr_left fun i hi => ?_
  show lsum (tbl b.length _) = _
  rw [one_sum, if_pos (List.mem_range.1 hi)]
theorem cols_len (p : List (List Int)) : (colsP p).length = wid p := tbl_len _ _
theorem rows_len (p : List (List Int)) : (rowsP p).length = p.length := by unfold rowsP; rw [List.length_map]
theorem cols_at {p : List (List Int)} {j : Nat} (hj : j < wid p) : (colsP p).getD j 0 = colP p j := tbl_get _ _ hj
theorem cols_nn {p : List (List Int)} (h : InPlan p) {j : Nat} (hj : j < wid p) : 0 ≤ (colsP p).getD j 0 ∧ (colsP p).getD j 0 ≤ 750 := by
  rw [cols_at hj]
  have := h.sumC hj p.length
  rwa [List.take_length] at this
theorem diag_glue {p : List (List Int)} (h : InPlan p) (hs : smallK (colsP p) (wid p) = true) : errGlue p (diag (colsP p)) = 0 := by
  have hC := h.cols
  have hw : wid (diag (colsP p)) = wid p := by rw [diag_wid (by rw [cols_len]; omega), cols_len]
  refine errGlue_0 (errPlan_0 h) (errPlan_0 (inPlan_of ?_ (by omega) fun i hi => ?_)) (diag_rows _).symm
  · unfold diag
    rw [tbl_len, cols_len]
    omega
  · have hi' : i < wid p := by unfold diag at hi; rwa [tbl_len, cols_len] at hi
    refine ⟨?_, fun j hj => ?_⟩
    · have e : ((diag (colsP p)).getD i []).length = wid p := by
        unfold diag
        rw [tbl_get _ _ (by rw [cols_len]; exact hi'), tbl_len, cols_len]
      rw [e, hw]
    · rw [hw] at hj
      rw [diag_at (by rw [cols_len]; exact hi') (by rw [cols_len]; exact hj)]
      have h1 := cols_nn h hi'
      have h2 := smallK_at hs hi'
      split <;> omega
theorem diag_gnum {p : List (List Int)} (h : InPlan p) {i k : Nat} (hi : i < p.length) (hk : k < wid p) : ∀ j, j ≤ wid p → gnum p (diag (colsP p)) i k j = (if k < j then (cell p i k).toNat else 0) * gden p j
  | 0, _ => by rw [if_neg (Nat.not_lt_zero k), Nat.zero_mul]; rfl
  | j + 1, hj => by
    have ih := diag_gnum h hi hk j (by omega)
    have hq : cell (diag (colsP p)) j k = if k = j then (colsP p).getD j 0 else 0 := diag_at (by rw [cols_len]; omega) (by rw [cols_len]; exact hk)
    have hg : gmid p j = ((colsP p).getD j 0).toNat := by unfold gmid; rw [cols_at (by omega)]
    simp only [gnum, gden]
    by_cases hm : 0 < gmid p j
    · rw [if_pos hm, if_pos hm, ih, hq]
      by_cases hkj : k = j
      · rw [if_pos hkj, if_neg (by omega), if_pos (by omega), Nat.zero_mul, Nat.zero_mul, Nat.zero_add, ← hg, ← hkj, Nat.mul_assoc, Nat.mul_comm (gmid p k)]
      · rw [if_neg hkj]
        by_cases h2 : k < j
        · rw [if_pos h2, if_pos (by omega), Int.toNat_zero, Nat.mul_zero, Nat.zero_mul, Nat.add_zero, Nat.mul_assoc]
        · rw [if_neg h2, if_neg (by omega)]; simp
    · rw [if_neg hm, if_neg hm, ih]
      by_cases hkj : k = j
      · subst hkj
        rw [if_neg (Nat.lt_irrefl k), if_pos (by omega)]
        have h1 := h.at hi hk
        have h3 := (lsum_ge (p.map fun r => r.getD k 0) fun x hx => by
          obtain ⟨r, hr, rfl⟩ := List.mem_map.1 hx
          exact (h.mem r hr _ (getD_mem 0 (by rw [h.len r hr]; exact hk))).1).2 i (by simpa using hi)
        have e3 : (p.map fun r => r.getD k 0).getD i 0 = cell p i k := by simp [cell, List.getD_eq_getElem?_getD, hi]
        rw [e3] at h3
        have h4 : colP p k = lsum (p.map fun r => r.getD k 0) := rfl
        have h5 : (cell p i k).toNat = 0 := by unfold gmid at hm; omega
        rw [h5]
      · by_cases h2 : k < j
        · rw [if_pos h2, if_pos (by omega)]
        · rw [if_neg h2, if_neg (by omega)]
/-- What is glued to a plan that leaves everything where it is is the plan. -/
theorem diag_same {p : List (List Int)} (h : InPlan p) : glueT p (diag (colsP p)) = tbl p.length fun i => tbl (wid p) fun k => ((p.getD i []).getD k 0, (1 : Int)) := by
  have hC := h.cols
  unfold glueT
  rw [diag_wid (by rw [cols_len]; omega), cols_len]
  refine tbl_congr fun i hi => tbl_congr fun k hk => ?_
  rw [diag_gnum h hi hk (wid p) (Nat.le_refl _), if_pos hk, rat_whole (gden_pos _)]
  have := h.at hi hk
  show (((cell p i k).toNat : Int), (1 : Int)) = _
  rw [show (((cell p i k).toNat : Nat) : Int) = cell p i k from Int.toNat_of_nonneg this.1]
  rfl
/-! ### Sums in either order -/
theorem sum_comm {p q : List (List Int)} (h : errSum p q = 0) : errSum q p = 0 ∧ sumT q p = sumT p q := by
  obtain ⟨h1, h2, h3, h4, h5⟩ := errSum_in h
  refine ⟨errSum_0 (errPlan_0 h2) (errPlan_0 h1) ⟨h3.symm, h4.symm⟩ fun i j hi hj => ?_, ?_⟩
  · have := h5 i j (by omega) (by omega)
    omega
  · unfold sumT
    rw [← h3, ← h4]
    exact tbl_congr fun i _ => tbl_congr fun j _ => Int.add_comm _ _
end Go.Proofs.Ytloipnalmkdldaa
