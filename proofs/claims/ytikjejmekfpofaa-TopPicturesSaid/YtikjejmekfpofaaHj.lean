/- Which plans and prices prove each other. Conditions: in each contract. -/
import Derived.Test.YtikjejmekfpofaaGn
import Derived.Test.YtikjejmekfpofaaHd
namespace Go.Proofs.Ytikjejmekfpofaa
open Go.RowKit Go.VS
set_option linter.unusedSimpArgs false
set_option linter.unusedVariables false

def TightP (c t : List (List Int)) (p : Prices) : Prop := ∀ i, i < t.length → ∀ j, j < wid t → 0 < (t.getD i []).getD j 0 → p.1.getD i 0 + p.2.getD j 0 = (c.getD i []).getD j 0
instance (c t : List (List Int)) (p : Prices) : Decidable (TightP c t p) := by unfold TightP; infer_instance
def errBest (a b : List Int) (c t : List (List Int)) (p : Prices) : Int :=
  if ¬ errFits a b c = 0 then errFits a b c else if ¬ errCheck a b t = 0 then 7 else if ¬ errPr c p = 0 then errPr c p else if TightP c t p then 0 else 8
section
variable {a b : List Int} {c t : List (List Int)} {p : Prices}
theorem errBest_f (h : ¬ errFits a b c = 0) : errBest a b c t p = errFits a b c := if_pos h
theorem errBest_7 (h : errFits a b c = 0) (h2 : ¬ errCheck a b t = 0) : errBest a b c t p = 7 := by rw [errBest, if_neg (fun h3 => h3 h), if_pos h2]
theorem errBest_p (h : errFits a b c = 0) (h2 : errCheck a b t = 0) (h3 : ¬ errPr c p = 0) : errBest a b c t p = errPr c p := by rw [errBest, if_neg (fun h4 => h4 h), if_neg (fun h4 => h4 h2), if_pos h3]
theorem errBest_8 (h : errFits a b c = 0) (h2 : errCheck a b t = 0) (h3 : errPr c p = 0) (h4 : ¬ TightP c t p) : errBest a b c t p = 8 := by rw [errBest, if_neg (fun h4 => h4 h), if_neg (fun h4 => h4 h2), if_neg (fun h4 => h4 h3), if_neg h4]
theorem errBest_0 (h : errFits a b c = 0) (h2 : errCheck a b t = 0) (h3 : errPr c p = 0) (h4 : TightP c t p) : errBest a b c t p = 0 := by rw [errBest, if_neg (fun h4 => h4 h), if_neg (fun h4 => h4 h2), if_neg (fun h4 => h4 h3), if_pos h4]
/-- What a right plan is. -/
theorem errCheck_ok (h : errCheck a b t = 0) : okMass a = true ∧ okMass b = true ∧ InPlan t ∧ lsum a = lsum b ∧ rowsP t = a ∧ colsP t = b := by
  unfold errCheck at h
  split at h
  · split at h
    · split at h
      · split at h
        · split at h
          · rename_i h1 h2 h3 h4 h5
            exact ⟨h1, h2, okPlan_iff.1 h3, h4, h5.1, h5.2⟩
          · omega
        · omega
      · omega
    · omega
  · omega
theorem errCheck_0 (h1 : okMass a = true) (h2 : okMass b = true) (h3 : InPlan t) (h4 : lsum a = lsum b) (h5 : rowsP t = a) (h6 : colsP t = b) : errCheck a b t = 0 := by
  unfold errCheck
  rw [if_pos h1, if_pos h2, if_pos (okPlan_iff.2 h3), if_pos h4, if_pos ⟨h5, h6⟩]
theorem best_dims (h : errFits a b c = 0) (h2 : errCheck a b t = 0) : t.length = c.length ∧ wid t = wid c ∧ InTab 0 99 c ∧ InPlan t := by
  obtain ⟨h3, _⟩ := errFits_ok h
  obtain ⟨_, _, h4, _, h5, h6⟩ := errCheck_ok h2
  have k1 : (rowsP t).length = t.length := by simp [rowsP]
  have k2 : (colsP t).length = wid t := tbl_len _ _
  rw [h5] at k1
  rw [h6] at k2
  have k3 := h3.rows
  have k4 := h3.cols
  exact ⟨by omega, by omega, h3.hc, h4⟩
end

@[push_cast] def bestBCon : Con := ⟨[.dat (.sl .int), .dat (.sl .int), .dat (.sl (.sl .int)), .dat (.sl (.sl .int)), .dat (.prod (.sl .int) (.sl .int))], fun _ => True, fun (x : List Int × List Int × List (List Int) × List (List Int) × Prices × Unit) => { res := [.val .int (errBest x.1 x.2.1 x.2.2.1 x.2.2.2.1 x.2.2.2.2.1)] }⟩

end Go.Proofs.Ytikjejmekfpofaa
