/- Some plan between masses; distances in a plan lowered once. Conditions: in each contract. -/
import Derived.Test.YtogopoiohckpdaeV4
import Derived.Test.YtogopoiohckpdaeG2
import Derived.Test.YtogopoiohckpdaeP5
namespace Go.Proofs.Ytogopoiohckpdae
open Go.RowKit Go.VS Go.OT Go.LC
set_option linter.unusedSimpArgs false
set_option linter.unusedVariables false

/-! ### Distances lowered once -/
structure LwB (N : Nat) (m : Int) (s : LL) : Prop where
  l1 : s.far.length = N
  l2 : s.by'.length = N
  bnd : ∀ v, v < N → -1000000 * m ≤ s.far.getD v 0 ∧ s.far.getD v 0 ≤ 0
theorem LwB.mono {N : Nat} {m m' : Int} {s : LL} (h : LwB N m s) (hm : m ≤ m') : LwB N m' s := ⟨h.l1, h.l2, fun v hv => by have := h.bnd v hv; omega⟩
theorem LwB.set {N : Nat} {m : Int} {s : LL} (h : LwB N m s) {v : Nat} (hv : v < N) {x y z : Int} (hb : -1000000 * (m + 1) ≤ x ∧ x ≤ 0) : LwB N (m + 1) ⟨s.far.set v x, s.by'.set v y, z⟩ := by
  refine ⟨by simp [h.l1], by simp [h.l2], fun k hk => ?_⟩
  show _ ≤ (s.far.set v x).getD k 0 ∧ (s.far.set v x).getD k 0 ≤ 0
  rw [ga_set (by rw [h.l1]; exact hv)]
  have := h.bnd k hk
  split <;> omega
section
variable {R C : Nat} {m : Int} {s : LL}
theorem LwB.lwC (h : LwB (R + C) m s) {c : Int} {i j : Nat} (hi : i < R) (hj : j < C) (hc : 0 ≤ c ∧ c ≤ 1000000) : LwB (R + C) (m + 1) (lwC R c i j s) := by
  unfold Go.LC.lwC
  split
  · have b1 := h.bnd i (by omega)
    have b2 := h.bnd (R + j) (by omega)
    exact h.set (by omega) (by omega)
  · exact h.mono (by omega)
theorem LwB.lwR (h : LwB (R + C) m s) {c n : Int} {i j : Nat} (hi : i < R) (hj : j < C) (hc : 0 ≤ c ∧ c ≤ 1000000) : LwB (R + C) (m + 1) (lwR R c n i j s) := by
  unfold Go.LC.lwR
  split
  · have b1 := h.bnd i (by omega)
    have b2 := h.bnd (R + j) (by omega)
    exact h.set (by omega) (by omega)
  · exact h.mono (by omega)
variable {c p : List (List Int)}
theorem LwB.row (hc : Tb R C 0 1000000 c) (h : LwB (R + C) m s) {i : Nat} (hi : i < R) : ∀ j, j ≤ C → LwB (R + C) (m + 2 * j) (upto (lw2 c p i) j s)
  | 0, _ => h.mono (by omega)
  | j + 1, hj => by
    have h1 := LwB.row hc h hi j (by omega)
    have h2 := (h1.lwC (c := (c.getD i []).getD j 0) hi (by omega : j < C) (hc.at' i j hi (by omega))).lwR (c := (c.getD i []).getD j 0) (n := (p.getD i []).getD j 0) hi (by omega : j < C) (hc.at' i j hi (by omega))
    show LwB (R + C) (m + 2 * ((j + 1 : Nat) : Int)) (lw2 c p i j (upto (lw2 c p i) j s))
    have e : lw2 c p i j (upto (lw2 c p i) j s) = Go.LC.lwR c.length ((c.getD i []).getD j 0) ((p.getD i []).getD j 0) i j (Go.LC.lwC c.length ((c.getD i []).getD j 0) i j (upto (lw2 c p i) j s)) := rfl
    rw [e, hc.rows]
    have h3 := LwB.mono (m' := m + 2 * ((j + 1 : Nat) : Int)) h2 (by omega)
    exact h3
theorem LwB.tab (hc : Tb R C 0 1000000 c) (hC : C ≤ 6) (h : LwB (R + C) m s) : ∀ i, i ≤ R → LwB (R + C) (m + 12 * i) (upto (lwRow c p) i s)
  | 0, _ => h.mono (by omega)
  | i + 1, hi => by
    have h1 := LwB.row (p := p) hc (LwB.tab hc hC h i (by omega)) (i := i) (by omega) C (Nat.le_refl _)
    show LwB (R + C) (m + 12 * ((i + 1 : Nat) : Int)) (upto (lw2 c p i) (c.getD i []).length (upto (lwRow c p) i s))
    rw [hc.cols i (by omega)]
    exact h1.mono (by omega)
end


section
variable {R : Nat} {c p : List (List Int)} {i j : Nat} {s : LL}
end

end Go.Proofs.Ytogopoiohckpdae
