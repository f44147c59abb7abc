/- Loose plans: what they move and cost; the statement LooseBounds. Conditions: in each contract. -/
import Derived.Test.YtogopoiohckpdabSi
namespace Go.Proofs.Ytogopoiohckpdab
open Go.RowKit Go.VS Go.OT
set_option linter.unusedSimpArgs false
set_option linter.unusedVariables false

/-- What the first rows move. -/
def movK (p : List (List Int)) (i : Nat) : Int := sg i fun r => lsum (p.getD r [])
theorem lo_row {a b : List Int} {t : List (List Int)} (hp : InPlan t) (hl : LooseP a b t) {i : Nat} (hi : i < a.length) : rowS b.length (gt t) i = lsum (t.getD i []) := by
  rw [lsum_sumL]
  unfold sumL
  rw [hp.row (by rw [hl.rows]; exact hi), hl.cols]
  rfl
theorem lo_part {a b : List Int} {t : List (List Int)} (hp : InPlan t) (hl : LooseP a b t) : IsPart a.length b.length (ga a) (ga b) (gt t) ∧ units a.length b.length (gt t) = movK t t.length := by
  refine ⟨⟨fun i j hi hj => (hp.at (show i < t.length by rw [hl.rows]; exact hi) (show j < wid t by rw [hl.cols]; exact hj)).1, fun i hi => ?_, fun j hj => ?_⟩, ?_⟩
  · rw [lo_row hp hl hi]
    exact hl.ra i (by rw [hl.rows]; exact hi)
  · have h1 := hl.cb j (by rw [hl.cols]; exact hj)
    rw [hl.rows] at h1
    exact h1
  · unfold units movK
    rw [hl.rows]
    exact sg_congr _ fun i hi => lo_row hp hl hi

end Go.Proofs.Ytogopoiohckpdab
