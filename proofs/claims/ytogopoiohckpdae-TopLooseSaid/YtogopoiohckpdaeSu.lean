/- The plans that the program finds are loose plans; the document's checks of loose plans. Conditions: in each contract. -/
import Derived.Test.YtogopoiohckpdaeSt
import Derived.Test.YtogopoiohckpdaeSj
import Derived.Test.YtogopoiohckpdaeG3
namespace Go.Proofs.Ytogopoiohckpdae
open Go.RowKit Go.VS Go.OT Go.LC
set_option linter.unusedSimpArgs false
set_option linter.unusedVariables false

theorem okMass_at {l : List Int} (h : okMass l = true) {i : Nat} (hi : i < l.length) : 0 ≤ ga l i ∧ ga l i ≤ 30 := by
  unfold okMass at h
  simp only [Bool.and_eq_true, decide_eq_true_eq, List.all_eq_true] at h
  exact h.2 _ (getD_mem 0 hi)
theorem mem_gt {t : List (List Int)} {x : Int} {r : List Int} (hr : r ∈ t) (hx : x ∈ r) : ∃ i j, i < t.length ∧ j < (t.getD i []).length ∧ x = gt t i j := by
  obtain ⟨i, hi, rfl⟩ := List.getElem_of_mem hr
  obtain ⟨j, hj, rfl⟩ := List.getElem_of_mem hx
  have e : t.getD i [] = t[i] := by rw [List.getD_eq_getElem?_getD, List.getElem?_eq_getElem hi]; rfl
  refine ⟨i, j, hi, by rw [e]; exact hj, ?_⟩
  unfold gt
  rw [e, List.getD_eq_getElem?_getD, List.getElem?_eq_getElem hj]
  rfl
/-- What the program has found is a loose plan. -/
theorem step_lo {a b : List Int} {c : List (List Int)} (hf : ForOK a b c) {k : Nat} (hk : k ≤ maxU a b) :
    InPlan (stepP a b c k) ∧ LooseP a b (stepP a b c k) ∧ movK (stepP a b c k) (stepP a b c k).length = k ∧ spend c (stepP a b c k) = partV a b c k := by
  have hm := hf.mc
  have hs := stepI hm k hk
  have hsh := hs.way.shp
  obtain ⟨p1, p2, p3⟩ := part_at hm hk
  generalize stepP a b c k = t at *
  have ha := okMass_small hf.ha
  have hb := okMass_small hf.hb
  have hr := hsh.rows
  have hc := hsh.cols
  have ha5 := hm.a5
  have hb5 := hm.b5
  have hw : wid t = b.length := hc 0 (by omega)
  have hin : InPlan t := by
    refine ⟨by omega, by omega, fun r hr => ?_, fun r hr x hx => ?_⟩
    · obtain ⟨i, hi, rfl⟩ := List.getElem_of_mem hr
      have := hc i hi
      rw [List.getD_eq_getElem?_getD, List.getElem?_eq_getElem hi] at this
      exact this.trans hw.symm
    · obtain ⟨i, j, hi, hj, rfl⟩ := mem_gt hr hx
      have hj' := hc i hi
      have k1 := p1.nn i j (by omega) (by omega)
      have k2 := p1.at_le (i := i) (j := j) (by omega) (by omega)
      have k3 := okMass_at hf.hb (i := j) (by omega)
      omega
  have hrow : ∀ i, i < a.length → rowS b.length (gt t) i = lsum (t.getD i []) := fun i hi => by
    rw [lsum_sumL]
    unfold sumL
    rw [hc i (by omega)]
    rfl
  have hlo : LooseP a b t := by
    refine ⟨hr, hw, fun i hi => ?_, fun j hj => ?_⟩
    · rw [← hrow i (by omega)]
      exact p1.row i (by omega)
    · rw [hr]
      exact p1.col j (by omega)
  refine ⟨hin, hlo, ?_, ?_⟩
  · rw [← (lo_part hin hlo).2, p2]
  · rw [← p3]
    exact spend_cst hsh.tab.sz

end Go.Proofs.Ytogopoiohckpdae
