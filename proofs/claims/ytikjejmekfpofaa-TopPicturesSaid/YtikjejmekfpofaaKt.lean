/- Sums of tables; plans for their own masses. Conditions: in each lemma. -/
import Derived.Test.YtikjejmekfpofaaHp
namespace Go.Proofs.Ytikjejmekfpofaa
open Go.RowKit Go.VS Go.OT
set_option linter.unusedSimpArgs false
set_option linter.unusedVariables false

theorem any_false {α : Type} {f : α → Bool} {l : List α} (h : ¬ l.any f = true) {x : α} (hx : x ∈ l) : f x = false := by
  rw [Bool.not_eq_true, List.any_eq_false] at h
  have := h x hx
  rwa [Bool.not_eq_true] at this
/-! ### Lists and sums -/
theorem rowsP_at {R C : Nat} {t : List (List Int)} (h : Sz R C t) {i : Nat} (hi : i < R) : (rowsP t).getD i 0 = rowS C (gt t) i := by
  have e1 : (rowsP t).getD i 0 = lsum (t.getD i []) := by
    unfold rowsP
    rw [map_tbl t [], tbl_get _ _ (by rw [h.rows]; exact hi)]
  rw [e1, ← sg_lsum]
  unfold sumL
  rw [h.cols i hi]
  rfl
theorem colP_sg {R C : Nat} {t : List (List Int)} (h : Sz R C t) (j : Nat) : colP t j = colS R (gt t) j := by
  unfold colP
  rw [← sg_lsum]
  unfold sumL
  rw [List.length_map, h.rows]
  refine sg_congr R fun i hi => ?_
  show (t.map fun r => r.getD j 0).getD i 0 = gt t i j
  rw [map_tbl t [], tbl_get _ _ (by rw [h.rows]; exact hi)]
  rfl
theorem colsP_at {R C : Nat} {t : List (List Int)} (h : Sz R C t) (hw : wid t = C) {j : Nat} (hj : j < C) : (colsP t).getD j 0 = colS R (gt t) j := by
  unfold colsP
  rw [tbl_get _ _ (by rw [hw]; exact hj), colP_sg h]
theorem rowsP_len (t : List (List Int)) : (rowsP t).length = t.length := by simp [rowsP]
theorem colsP_len (t : List (List Int)) : (colsP t).length = wid t := tbl_len _ _
theorem InPlan.sz {t : List (List Int)} (h : InPlan t) : Sz t.length (wid t) t := ⟨rfl, fun i hi => h.row hi⟩

section
variable {a b : List Int} {c t : List (List Int)} {p : Prices}
/-- The shape of what fits. -/
theorem fits_dims (h : errFits a b c = 0) : c.length = a.length ∧ wid c = b.length ∧ InTab 0 99 c ∧ okMass a = true ∧ okMass b = true ∧ lsum a = lsum b := by
  obtain ⟨h1, h2⟩ := errFits_ok h
  exact ⟨h1.rows, h1.cols, h1.hc, h1.ha, h1.hb, h2⟩
theorem errSpend_ok (h : errSpend c t = 0) : InTab 0 99 c ∧ InPlan t ∧ t.length = c.length ∧ wid t = wid c := by
  unfold errSpend at h
  split at h
  · rename_i h1
    exact ⟨h1.1, okPlan_iff.1 h1.2.1, h1.2.2⟩
  · omega
/-! ### A plan for its own masses -/
theorem own_plan (h : errSpend c t = 0) : IsPlan (rowsP t).length (colsP t).length (ga (rowsP t)) (ga (colsP t)) (gt t) ∧ spendV c t = cst (rowsP t).length (colsP t).length (gt c) (gt t) := by
  obtain ⟨h1, h2, h3, h4⟩ := errSpend_ok h
  have hs := h2.sz
  rw [rowsP_len, colsP_len]
  refine ⟨⟨fun i j hi hj => (h2.at hi hj).1, fun i hi => ?_, fun j hj => ?_⟩, ?_⟩
  · exact (rowsP_at hs hi).symm
  · exact (colsP_at hs rfl hj).symm
  · rw [spendV_ok h]
    exact spend_cst hs
theorem own_least (h : errSpend c t = 0) (hf : errFits (rowsP t) (colsP t) c = 0) : leastV (rowsP t) (colsP t) c ≤ spendV c t := by
  obtain ⟨k1, k2⟩ := own_plan h
  rw [k2]
  exact least_le hf k1
end

/-- The sums of rows and of columns of the first rows, and of the first columns of row i. -/
def rowT (t : List (List Int)) (i j : Nat) : List Int := tbl t.length fun r => if r < i then lsum (t.getD r []) else if r = i then lsum ((t.getD i []).take j) else 0
def colT (t : List (List Int)) (i j : Nat) : List Int := tbl (wid t) fun c => colP (t.take i) c + if c < j then (t.getD i []).getD c 0 else 0
section
variable {t : List (List Int)} {i j : Nat}
theorem rowT_len : (rowT t i j).length = t.length := tbl_len _ _
theorem colT_len : (colT t i j).length = wid t := tbl_len _ _
theorem rowT_at (hi : i < t.length) : (rowT t i j).getD i 0 = lsum ((t.getD i []).take j) := by
  unfold rowT
  rw [tbl_get _ _ hi, if_neg (Nat.lt_irrefl _), if_pos rfl]
theorem colT_at (hj : j < wid t) : (colT t i j).getD j 0 = colP (t.take i) j := by
  unfold colT
  rw [tbl_get _ _ hj, if_neg (Nat.lt_irrefl _), Int.add_zero]
theorem rowT_zero {n : Nat} (h : n = t.length) : List.replicate n 0 = rowT t 0 0 := by
  subst h
  rw [← tbl_const]
  exact tbl_congr fun r _ => by
    rw [if_neg (Nat.not_lt_zero r)]
    split <;> rfl
theorem colT_zero {n : Nat} (h : n = wid t) : List.replicate n 0 = colT t 0 0 := by
  subst h
  rw [← tbl_const]
  exact tbl_congr fun c _ => by
    rw [if_neg (Nat.not_lt_zero c)]
    rfl
theorem rowT_next (h : InPlan t) (hi : i < t.length) : rowT t i (wid t) = rowT t (i + 1) 0 := tbl_congr fun r hr => by
  by_cases h1 : r = i
  · subst h1
    rw [if_neg (Nat.lt_irrefl _), if_pos rfl, if_pos (Nat.lt_succ_self _), List.take_of_length_le (by rw [h.row hi]; exact Nat.le_refl _)]
  · rw [if_neg h1]
    by_cases h2 : r < i
    · rw [if_pos h2, if_pos (by omega)]
    · rw [if_neg h2, if_neg (by omega)]
      split <;> rfl
theorem colT_next (hi : i < t.length) : colT t i (wid t) = colT t (i + 1) 0 := tbl_congr fun c hc => by
  rw [if_pos hc, if_neg (Nat.not_lt_zero c), colP_take hi, Int.add_zero]
theorem rowT_step (h : InPlan t) (hi : i < t.length) (hj : j < wid t) : (rowT t i j).set i (lsum ((t.getD i []).take j) + (t.getD i []).getD j 0) = rowT t i (j + 1) := by
  have hl := h.row hi
  unfold rowT
  rw [tbl_set]
  refine tbl_congr fun r _ => ?_
  by_cases h : r = i
  · subst h
    rw [if_pos rfl, if_neg (Nat.lt_irrefl _), if_pos rfl, lsum_take _ _ (by omega)]
  · rw [if_neg h, if_neg h, if_neg h]
theorem colT_step (hj : j < wid t) : (colT t i j).set j (colP (t.take i) j + (t.getD i []).getD j 0) = colT t i (j + 1) := by
  unfold colT
  rw [tbl_set]
  refine tbl_congr fun c _ => ?_
  by_cases h : c = j
  · subst h
    rw [if_pos rfl, if_pos (Nat.lt_succ_self _)]
  · rw [if_neg h]
    by_cases h2 : c < j
    · rw [if_pos h2, if_pos (by omega)]
    · rw [if_neg h2, if_neg (by omega)]
theorem rowT_end : rowT t t.length 0 = rowsP t := by
  rw [rowsP, map_tbl t []]
  exact tbl_congr fun r hr => if_pos hr
theorem colT_end : colT t t.length 0 = colsP t := by
  unfold colT
  rw [List.take_of_length_le (Nat.le_refl _)]
  exact tbl_congr fun c _ => by rw [if_neg (Nat.not_lt_zero c), Int.add_zero]
end

end Go.Proofs.Ytikjejmekfpofaa
