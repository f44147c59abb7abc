/- The links of a plan. Conditions: in each lemma. -/
import Derived.Test.YtpfkipccbgdkjacKj
import Derived.Test.YtpfkipccbgdkjacKt
namespace Go.Proofs.Ytpfkipccbgdkjac
open Go.RowKit Go.VS Go.OT Go.LC
set_option linter.unusedSimpArgs false
set_option linter.unusedVariables false

/-! ### The links of a plan -/
def lkRow (t : List (List Int)) (i : Nat) : Nat → List Pr
  | 0 => []
  | j + 1 => lkRow t i j ++ (if 0 < (t.getD i []).getD j 0 then [((i : Int), (j : Int))] else [])
def lkTo (t : List (List Int)) : Nat → List Pr
  | 0 => []
  | i + 1 => lkTo t i ++ lkRow t i (wid t)
def lkV (t : List (List Int)) : List Pr := lkTo t t.length
structure LkI (t : List (List Int)) (i j : Nat) (L : List Pr) : Prop where
  srt : L.Pairwise lexLt
  mem : ∀ x ∈ L, 0 ≤ x.1 ∧ 0 ≤ x.2 ∧ (x.1 < i ∨ x.1 = i ∧ x.2 < j) ∧ x.2 < wid t ∧ 0 < (t.getD x.1.toNat []).getD x.2.toNat 0
  all : ∀ r k : Nat, (r < i ∨ r = i ∧ k < j) → k < wid t → 0 < (t.getD r []).getD k 0 → ((r : Int), (k : Int)) ∈ L
  len : L.length ≤ i * wid t + j
theorem LkI.step {t : List (List Int)} {i j : Nat} {L : List Pr} (h : LkI t i j L) (hj : j < wid t) : LkI t i (j + 1) (L ++ (if 0 < (t.getD i []).getD j 0 then [((i : Int), (j : Int))] else [])) := by
  by_cases h0 : 0 < (t.getD i []).getD j 0
  · rw [if_pos h0]
    refine ⟨List.pairwise_append.2 ⟨h.srt, by simp, fun x hx y hy => ?_⟩, fun x hx => ?_, fun r k h1 h2 h3 => ?_, by rw [List.length_append]; have := h.len; simp only [List.length_cons, List.length_nil]; omega⟩
    · obtain rfl := List.mem_singleton.1 hy
      obtain ⟨_, _, k3, _⟩ := h.mem x hx
      unfold lexLt
      dsimp only
      omega
    · rcases List.mem_append.1 hx with hx | hx
      · obtain ⟨k1, k2, k3, k4, k5⟩ := h.mem x hx
        exact ⟨k1, k2, by omega, k4, k5⟩
      · obtain rfl := List.mem_singleton.1 hx
        dsimp only
        exact ⟨by omega, by omega, by omega, by omega, h0⟩
    · rw [List.mem_append]
      by_cases hk : r = i ∧ k = j
      · right
        rw [hk.1, hk.2]
        exact List.mem_singleton.2 rfl
      · left
        exact h.all r k (by omega) h2 h3
  · rw [if_neg h0, List.append_nil]
    refine ⟨h.srt, fun x hx => ?_, fun r k h1 h2 h3 => ?_, by have := h.len; omega⟩
    · obtain ⟨k1, k2, k3, k4, k5⟩ := h.mem x hx
      exact ⟨k1, k2, by omega, k4, k5⟩
    · by_cases hk : r = i ∧ k = j
      · rw [hk.1, hk.2] at h3
        exact absurd h3 h0
      · exact h.all r k (by omega) h2 h3
theorem LkI.row {t : List (List Int)} {i : Nat} {L : List Pr} (h : LkI t i 0 L) : ∀ j, j ≤ wid t → LkI t i j (L ++ lkRow t i j)
  | 0, _ => by
    rw [show lkRow t i 0 = [] from rfl, List.append_nil]
    exact h
  | j + 1, hj => by
    have h1 := (LkI.row h j (by omega)).step (by omega)
    rw [List.append_assoc] at h1
    exact h1
theorem LkI.next {t : List (List Int)} {i : Nat} {L : List Pr} (h : LkI t i (wid t) L) : LkI t (i + 1) 0 L :=
  ⟨h.srt, fun x hx => by obtain ⟨k1, k2, k3, k4, k5⟩ := h.mem x hx; exact ⟨k1, k2, by omega, k4, k5⟩, fun r k h1 h2 h3 => h.all r k (by omega) h2 h3, by have := h.len; rw [Nat.add_mul]; omega⟩
theorem lkI (t : List (List Int)) : ∀ i, LkI t i 0 (lkTo t i)
  | 0 => ⟨List.Pairwise.nil, fun x hx => (by cases hx), fun r k h => (by omega), by simp [lkTo]⟩
  | i + 1 => ((lkI t i).row (wid t) (Nat.le_refl _)).next
theorem lk_len {t : List (List Int)} (ht : InPlan t) {i j : Nat} (hi : i ≤ t.length) (hj : j ≤ wid t) : (lkTo t i ++ lkRow t i j).length ≤ 1000 := by
  have h1 := ((lkI t i).row j hj).len
  have h2 := ht.rows
  have h3 := ht.cols
  have h4 : i * wid t ≤ 5 * 5 := Nat.mul_le_mul (by omega) (by omega)
  omega
theorem lk_step {t : List (List Int)} {i j : Nat} (h : 0 < (t.getD i []).getD j 0) : (lkTo t i ++ lkRow t i j) ++ [((i : Int), (j : Int))] = lkTo t i ++ lkRow t i (j + 1) := by
  rw [List.append_assoc, lkRow, if_pos h]
theorem lk_skip {t : List (List Int)} {i j : Nat} (h : ¬ 0 < (t.getD i []).getD j 0) : lkTo t i ++ lkRow t i j = lkTo t i ++ lkRow t i (j + 1) := by
  rw [lkRow, if_neg h, List.append_nil]
theorem lk_zero (t : List (List Int)) (i : Nat) : lkTo t i ++ lkRow t i 0 = lkTo t i := List.append_nil _

section
variable {c t : List (List Int)}
theorem lk_at {k : Nat} (hk : k < (lkV t).length) : 0 ≤ (toP (lkV t) k).1 ∧ 0 ≤ (toP (lkV t) k).2 ∧ (toP (lkV t) k).1 < t.length ∧ (toP (lkV t) k).2 < wid t ∧ 0 < (t.getD (lr (lkV t) k) []).getD (lc (lkV t) k) 0 := by
  obtain ⟨k1, k2, k3, k4, k5⟩ := (lkI t t.length).mem _ (getD_mem (0, 0) hk)
  exact ⟨k1, k2, by show ((lkTo t t.length).getD k (0, 0)).1 < _; omega, k4, k5⟩
theorem lk_links (hc : InTab 0 99 c) (h1 : t.length = c.length) (h2 : wid t = wid c) : Lnk c (lkV t) := by
  refine ⟨fun i hi => ?_, fun i hi => ?_⟩
  · obtain ⟨k1, k2, k3, k4, _⟩ := lk_at hi
    exact ⟨k1, by omega, k2, by omega⟩
  · have h3 := List.pairwise_iff_getElem.1 (lkI t t.length).srt i (i + 1) (by show i < (lkV t).length; omega) hi (by omega)
    unfold toP
    rw [List.getD_eq_getElem?_getD, List.getD_eq_getElem?_getD, List.getElem?_eq_getElem (by omega), List.getElem?_eq_getElem hi]
    exact h3
theorem lk_pos {i j : Nat} (hi : i < t.length) (hj : j < wid t) : 0 < gt t i j ↔ ∃ k, k < (lkV t).length ∧ lr (lkV t) k = i ∧ lc (lkV t) k = j := by
  constructor
  · intro h
    obtain ⟨k, hk, he⟩ := List.getElem_of_mem ((lkI t t.length).all i j (.inl hi) hj h)
    have e : toP (lkV t) k = ((i : Int), (j : Int)) := by
      have hk' : k < (lkV t).length := hk
      unfold toP
      rw [List.getD_eq_getElem?_getD, List.getElem?_eq_getElem hk']
      exact he
    refine ⟨k, hk, ?_, ?_⟩
    · unfold lr; rw [e]; rfl
    · unfold lc; rw [e]; rfl
  · rintro ⟨k, hk, rfl, rfl⟩
    exact (lk_at hk).2.2.2.2
end
end Go.Proofs.Ytpfkipccbgdkjac
