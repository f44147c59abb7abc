/- The statement LooseLeast: for every job and waste. No condition. -/
import Derived.Test.YtogopoiohckpdaeUc
import Derived.Test.YtogopoiohckpdaeSx
import Derived.Test.YtogopoiohckpdaeSm
namespace Go.Proofs.Ytogopoiohckpdae
open Go.RowKit Go.VS Go.OT Go.LC
set_option linter.unusedSimpArgs false
set_option linter.unusedVariables false

theorem cheap_cost {a b : List Int} {c : List (List Int)} {w : Int} (he : errWd a b c w = 0) : errLC a b c w (stepP a b c (fewK a b c w)) = 0 ∧ costL a b c w (stepP a b c (fewK a b c w)) = looseV a b c w := by
  obtain ⟨hf, hw⟩ := errWd_ok he
  have hk := (few_spec hf.mc w).1
  obtain ⟨g1, g2, g3, g4⟩ := step_lo hf hk
  have e1 : errLo a b (stepP a b c (fewK a b c w)) = 0 := by rw [errLo, if_pos ⟨if_pos hf.ha, if_pos hf.hb, errPlan_0 g1⟩, if_pos g2]
  have e2 : errLC a b c w (stepP a b c (fewK a b c w)) = 0 := by rw [errLC, if_pos he]; exact e1
  refine ⟨e2, ?_⟩
  rw [costL, if_pos e2, costV, g3, g4, lsum_sumL, lsum_sumL]
  rfl
theorem prices_worth {a b : List Int} {c : List (List Int)} {w : Int} (he : errWd a b c w = 0) : errWL a b c w (lpR a b c w) = 0 ∧ worthL a b c w (lpR a b c w) = looseV a b c w := by
  obtain ⟨hf, hw⟩ := errWd_ok he
  obtain ⟨h1, h2⟩ := lp_worth hf hw
  have e1 : errWL a b c w (lpR a b c w) = 0 := by rw [errWL, if_pos he]; exact h1
  exact ⟨e1, by rw [worthL, if_pos e1]; exact h2⟩

end Go.Proofs.Ytogopoiohckpdae
