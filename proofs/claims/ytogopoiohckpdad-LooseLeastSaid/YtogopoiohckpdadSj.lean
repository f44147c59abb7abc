/- Loose plans: what they move and cost; the statement LooseBounds. Conditions: in each contract. -/
import Derived.Test.YtogopoiohckpdadSi
namespace Go.Proofs.Ytogopoiohckpdad
open Go.RowKit Go.VS Go.OT
set_option linter.unusedSimpArgs false
set_option linter.unusedVariables false

/-- What the first rows move. -/
def movK (p : List (List Int)) (i : Nat) : Int := sg i fun r => lsum (p.getD r [])
theorem row_bnd {p : List (List Int)} (h : InPlan p) {i : Nat} (hi : i < p.length) : 0 ≤ lsum (p.getD i []) ∧ lsum (p.getD i []) ≤ 750 := by
  have h1 := h.row hi
  have h2 := h.cols
  rw [lsum_sumL]
  have k1 : 0 ≤ sumL (p.getD i []) := sg_nonneg _ fun j hj => (h.at hi (show j < wid p by omega)).1
  have k2 : sumL (p.getD i []) ≤ (p.getD i []).length * 150 := sg_bnd _ fun j hj => (h.at hi (show j < wid p by omega)).2
  omega
theorem movK_bnd {p : List (List Int)} (h : InPlan p) : ∀ i, i ≤ p.length → 0 ≤ movK p i ∧ movK p i ≤ 750 * i
  | 0, _ => by simp [movK, sg]
  | i + 1, hi => by
    have h1 := movK_bnd h i (by omega)
    have h2 := row_bnd h (show i < p.length by omega)
    show 0 ≤ movK p i + lsum (p.getD i []) ∧ movK p i + lsum (p.getD i []) ≤ _
    omega
@[push_cast] def movCon : Con := ⟨[.dat (.sl (.sl .int))], fun (x : List (List Int) × Unit) => InPlan x.1, fun (x : List (List Int) × Unit) => { res := [.val .int (movK x.1 x.1.length)] }⟩
def errLC (a b : List Int) (c : List (List Int)) (w : Int) (t : List (List Int)) : Int := if errWd a b c w = 0 then errLo a b t else errWd a b c w
def costV (a b : List Int) (c : List (List Int)) (w : Int) (t : List (List Int)) : Int := spend c t + w * (lsum a + lsum b - 2 * movK t t.length)
def costL (a b : List Int) (c : List (List Int)) (w : Int) (t : List (List Int)) : Int := if errLC a b c w t = 0 then costV a b c w t else 0
theorem errLC_ok {a b : List Int} {c : List (List Int)} {w : Int} {t : List (List Int)} (h : errLC a b c w t = 0) : errWd a b c w = 0 ∧ InPlan t ∧ LooseP a b t := by
  unfold errLC at h
  split at h
  · rename_i h1
    unfold errLo at h
    split at h
    · rename_i h2
      split at h
      · rename_i h3; exact ⟨h1, errPlan_in h2.2.2, h3⟩
      · omega
    · omega
  · rename_i h1; exact absurd h h1
theorem lo_fit {a b : List Int} {c : List (List Int)} {t : List (List Int)} (hf : ForOK a b c) (hp : InPlan t) (hl : LooseP a b t) : Fit c t := by
  have hm := hf.mc
  refine ⟨a.length, b.length, ⟨by have := hm.a5; omega, by have := hm.b5; omega⟩, ⟨hm.hc.rows, hm.hc.cols, fun i j hi hj => by have := hm.hc.at' i j hi hj; omega⟩, ⟨hl.rows, fun i hi => ?_, fun i j hi hj => ?_⟩⟩
  · rw [hp.row (by rw [hl.rows]; exact hi)]; exact hl.cols
  · have h1 : 0 ≤ (t.getD i []).getD j 0 ∧ (t.getD i []).getD j 0 ≤ 150 := hp.at (by rw [hl.rows]; exact hi) (by rw [hl.cols]; exact hj)
    omega
theorem lo_row {a b : List Int} {t : List (List Int)} (hp : InPlan t) (hl : LooseP a b t) {i : Nat} (hi : i < a.length) : rowS b.length (gt t) i = lsum (t.getD i []) := by
  rw [lsum_sumL]
  unfold sumL
  rw [hp.row (by rw [hl.rows]; exact hi), hl.cols]
  rfl
theorem lo_part {a b : List Int} {t : List (List Int)} (hp : InPlan t) (hl : LooseP a b t) : IsPart a.length b.length (ga a) (ga b) (gt t) ∧ units a.length b.length (gt t) = movK t t.length := by
  refine ⟨⟨fun i j hi hj => (hp.at (show i < t.length by rw [hl.rows]; exact hi) (show j < wid t by rw [hl.cols]; exact hj)).1, fun i hi => ?_, fun j hj => ?_⟩, ?_⟩
  · rw [lo_row hp hl hi]
    exact hl.ra i (by rw [hl.rows]; exact hi)
  · have h1 := hl.cb j (by rw [hl.cols]; exact hj)
    rw [hl.rows] at h1
    exact h1
  · unfold units movK
    rw [hl.rows]
    exact sg_congr _ fun i hi => lo_row hp hl hi

@[push_cast] def lCostCon : Con := ⟨[.dat (.sl .int), .dat (.sl .int), .dat (.sl (.sl .int)), .dat .int, .dat (.sl (.sl .int))], fun _ => True, fun (x : List Int × List Int × List (List Int) × Int × List (List Int) × Unit) => { res := [.val .int (costL x.1 x.2.1 x.2.2.1 x.2.2.2.1 x.2.2.2.2.1), .val .int (errLC x.1 x.2.1 x.2.2.1 x.2.2.2.1 x.2.2.2.2.1)] }⟩
end Go.Proofs.Ytogopoiohckpdad
