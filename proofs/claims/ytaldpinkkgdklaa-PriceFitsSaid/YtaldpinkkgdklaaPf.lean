/- Units are moved until nothing is left: a cheapest plan, with prices. No program; no condition. -/
import Derived.Test.YtaldpinkkgdklaaPe
namespace Go.OT
set_option linter.unusedSimpArgs false
set_option linter.unusedVariables false

def sumL (l : List Int) : Int := sg l.length (ga l)

def iterV (a b : List Int) (c : List (List Int)) : Nat → List (List Int) → List (List Int)
  | 0, p => p
  | n + 1, p => if bestV a b c p < 0 then p else iterV a b c n ((nextP a b c p).getD [])
def emptyV (a b : List Int) : List (List Int) := List.replicate a.length (List.replicate b.length 0)
def cheapV (a b : List Int) (c : List (List Int)) : List (List Int) := iterV a b c ((sumL a).toNat + 1) (emptyV a b)

/-- Masses and a cost table. -/
structure MC (a b : List Int) (c : List (List Int)) : Prop where
  a5 : 1 ≤ a.length ∧ a.length ≤ 6
  b5 : 1 ≤ b.length ∧ b.length ≤ 6
  ha : Bnd 0 200 a
  hb : Bnd 0 200 b
  hc : Tb a.length b.length 0 99 c

theorem gt_empty (a b : List Int) : gt (emptyV a b) = fun _ _ => 0 := by
  funext i j
  unfold gt emptyV
  rw [List.getD_eq_getElem?_getD, List.getD_eq_getElem?_getD, List.getElem?_replicate]
  split
  · rw [Option.getD_some, List.getElem?_replicate]
    split <;> rfl
  · rfl
theorem rowS_zero (C i : Nat) : rowS C (fun _ _ => 0) i = 0 := sg_zero C
theorem colS_zero (R j : Nat) : colS R (fun _ _ => 0) j = 0 := sg_zero R
theorem units_zero (R C : Nat) : units R C (fun _ _ => 0) = 0 := by
  unfold units
  rw [sg_congr R fun i _ => rowS_zero C i, sg_zero]
theorem cst_zero (R C : Nat) (c : Nat → Nat → Int) : cst R C c (fun _ _ => 0) = 0 := by
  unfold cst
  rw [sg_congr R fun i _ => (sg_congr C fun j _ => Int.mul_zero _).trans (sg_zero C), sg_zero]

section
variable {a b : List Int} {c : List (List Int)}
theorem emptyV_tb (a b : List Int) {lo hi : Int} (h1 : lo ≤ 0) (h2 : 0 ≤ hi) : Tb a.length b.length lo hi (emptyV a b) := by
  refine ⟨by simp [emptyV], fun i hi => ?_, fun i j _ _ => ?_⟩
  · unfold emptyV
    rw [List.getD_eq_getElem?_getD, List.getElem?_replicate, if_pos hi, Option.getD_some, List.length_replicate]
  · have := congrFun (congrFun (gt_empty a b) i) j
    unfold gt at this
    rw [this]
    exact ⟨h1, h2⟩

theorem MC.start (h : MC a b c) : Way2 a b c (emptyV a b) 0 := by
  refine ⟨⟨h.a5, h.b5, h.ha, h.hb, emptyV_tb a b (by omega) (by omega)⟩, ?_, fun _ => 0, fun _ => 0, ?_, fun _ _ => by dsimp only; omega, fun _ _ => by dsimp only; omega⟩
  · rw [gt_empty]
    exact ⟨fun _ _ _ _ => Int.le_refl _, fun i hi => by rw [rowS_zero]; exact (h.ha.at hi).1, fun j hj => by rw [colS_zero]; exact (h.hb.at hj).1⟩
  · rw [gt_empty]
    refine ⟨fun i j hi hj => ?_, fun i j _ _ h0 => absurd h0 (by omega), fun _ _ => Int.le_refl _, fun _ _ _ => rfl, fun _ _ => Int.le_refl _, fun _ _ _ => rfl⟩
    have : 0 ≤ gt c i j := (h.hc.at' i j hi hj).1
    omega

theorem IsPart.units_le {p : Nat → Nat → Int} (h : IsPart a.length b.length (ga a) (ga b) p) : 0 ≤ units a.length b.length p ∧ units a.length b.length p ≤ sumL a ∧ units a.length b.length p ≤ sumL b :=
  ⟨sg_nonneg _ fun i hi => sg_nonneg _ fun j hj => h.nn i j hi hj, sg_le _ fun i hi => h.row i hi, by rw [units_col]; exact sg_le _ fun j hj => h.col j hj⟩

/-- Until nothing is left. -/
theorem iterV_ok (hc : Tb a.length b.length 0 99 c) : ∀ (n : Nat) (p : List (List Int)) (V : Int), Way2 a b c p V → sumL a - units a.length b.length (gt p) < n →
    (∃ V', Way2 a b c (iterV a b c n p) V') ∧ bestV a b c (iterV a b c n p) < 0
  | 0, p, V, h, hn => by have := h.part.units_le; omega
  | n + 1, p, V, h, hn => by
    by_cases hb : bestV a b c p < 0
    · have e : iterV a b c (n + 1) p = p := if_pos hb
      rw [e]
      exact ⟨⟨V, h⟩, hb⟩
    · obtain ⟨p', h1, h2, h3, h4, h5, h6, h7⟩ := next_more hc h hb
      have e : iterV a b c (n + 1) p = iterV a b c n p' := by
        show (if _ then _ else _) = _
        rw [if_neg hb, h1]; rfl
      rw [e]
      exact iterV_ok hc n p' _ h2 (by omega)

theorem MC.cheap (h : MC a b c) : (∃ V, Way2 a b c (cheapV a b c) V) ∧ bestV a b c (cheapV a b c) < 0 := by
  refine iterV_ok h.hc _ _ 0 h.start ?_
  rw [gt_empty, units_zero]
  omega

/-- A plan of all that there is, and prices that are tight. -/
structure Best (a b : List Int) (c p : List (List Int)) : Prop where
  shp : Shp a b p
  plan : IsPlan a.length b.length (ga a) (ga b) (gt p)
  good : ∃ r s : Nat → Int, Holds a.length b.length (gt c) (fun i => - r i) s ∧ Tight a.length b.length (gt c) (gt p) (fun i => - r i) s ∧ (∀ i, i < a.length → 0 ≤ r i ∧ r i ≤ 99) ∧ ∀ j, j < b.length → 0 ≤ s j ∧ s j ≤ 99

theorem MC.best (h : MC a b c) (hs : sumL a = sumL b) : Best a b c (cheapV a b c) := by
  obtain ⟨⟨V, h1⟩, hb⟩ := h.cheap
  have h2 := (next_end h.hc h1 hb).2.2
  obtain ⟨r, s, hg, hr, hs2⟩ := h1.good
  have h3 : (∀ i, i < a.length → rowS b.length (gt (cheapV a b c)) i = ga a i) ∧ ∀ j, j < b.length → colS a.length (gt (cheapV a b c)) j = ga b j := by
    rcases h2 with h2 | h2
    · refine ⟨h2, fun j hj => ?_⟩
      have e1 : units a.length b.length (gt (cheapV a b c)) = sumL a := sg_congr _ h2
      rw [units_col, hs] at e1
      have e2 := sg_all0 b.length (f := fun j => ga b j - colS a.length (gt (cheapV a b c)) j) (fun j hj => by have := h1.part.col j hj; omega) (by rw [sg_sub]; unfold sumL at e1; omega) j hj
      omega
    · refine ⟨fun i hi => ?_, h2⟩
      have e1 : sg b.length (colS a.length (gt (cheapV a b c))) = sumL b := sg_congr _ h2
      rw [← units_col, ← hs] at e1
      have e2 := sg_all0 a.length (f := fun i => ga a i - rowS b.length (gt (cheapV a b c)) i) (fun i hi => by have := h1.part.row i hi; omega) (by rw [sg_sub]; unfold sumL units at e1; omega) i hi
      omega
  exact ⟨h1.shp, ⟨h1.part.nn, h3.1, h3.2⟩, r, s, fun i j hi hj => by have := hg.hold i j hi hj; dsimp only; omega, fun i j hi hj h0 => by have := hg.tight i j hi hj h0; dsimp only; omega, fun i hi => ⟨hg.rnn i hi, hr i hi⟩, hs2⟩
end
end Go.OT
