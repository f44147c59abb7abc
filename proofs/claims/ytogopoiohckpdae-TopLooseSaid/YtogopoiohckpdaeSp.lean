/- The document's least and parts: they are the program's. Conditions: in each contract. -/
import Derived.Test.YtogopoiohckpdaeSo
namespace Go.Proofs.Ytogopoiohckpdae
open Go.RowKit Go.VS Go.OT Go.LC
set_option linter.unusedSimpArgs false
set_option linter.unusedVariables false

theorem okMass_small {l : List Int} (h : okMass l = true) : l.length ≤ 5 ∧ 0 ≤ lsum l ∧ lsum l ≤ 150 := by
  unfold okMass at h
  simp only [Bool.and_eq_true, decide_eq_true_eq, List.all_eq_true] at h
  obtain ⟨h1, h2⟩ := h
  have h3 := lsum_bound 30 (by omega) l h2
  omega
section
variable {a b : List Int} {c : List (List Int)} {m d e : Int}
theorem dumA_len (a b : List Int) (m : Int) : (dumA a b m).length = a.length + 1 := by simp [dumA]
theorem dumA_at {i : Nat} (hi : i < a.length + 1) : ga (dumA a b m) i = withD a.length (ga a) (sumL b - m) i := by
  unfold withD dumA ga
  rw [lsum_sumL]
  by_cases h : i < a.length
  · rw [if_pos h, List.getD_eq_getElem?_getD, List.getElem?_append_left h, ← List.getD_eq_getElem?_getD]
  · obtain rfl : i = a.length := by omega
    rw [if_neg h, List.getD_eq_getElem?_getD, List.getElem?_append_right (Nat.le_refl _)]
    simp
theorem dumC_len (c : List (List Int)) (d e : Int) : (dumC c d e).length = c.length + 1 := by simp [dumC]
theorem dumC_row {i : Nat} (hi : i < c.length) : (dumC c d e).getD i [] = c.getD i [] ++ [d] := by
  unfold dumC
  rw [List.getD_eq_getElem?_getD, List.getElem?_append_left (by simpa using hi)]
  simp [List.getD_eq_getElem?_getD, hi]
theorem dumC_last : (dumC c d e).getD c.length [] = List.replicate (wid c) d ++ [e] := by
  unfold dumC
  rw [List.getD_eq_getElem?_getD, List.getElem?_append_right (by simp)]
  simp
theorem dumC_at (hc : InTab 0 99 c) {i j : Nat} (hi : i < c.length + 1) (hj : j < wid c + 1) : gt (dumC c d e) i j = costD c.length (wid c) (gt c) d e i j := by
  unfold gt costD
  by_cases h : i < c.length
  · rw [if_pos h, dumC_row h]
    have hl := hc.len h
    by_cases h2 : j < wid c
    · rw [if_pos h2, List.getD_eq_getElem?_getD, List.getElem?_append_left (by omega), ← List.getD_eq_getElem?_getD]
    · obtain rfl : j = wid c := by omega
      rw [if_neg h2, List.getD_eq_getElem?_getD, List.getElem?_append_right (by omega), hl]
      simp
  · obtain rfl : i = c.length := by omega
    rw [if_neg h, dumC_last]
    by_cases h2 : j < wid c
    · rw [if_pos h2, List.getD_eq_getElem?_getD, List.getElem?_append_left (by simpa using h2)]
      simp [h2]
    · obtain rfl : j = wid c := by omega
      rw [if_neg h2, List.getD_eq_getElem?_getD, List.getElem?_append_right (by simp)]
      simp
theorem dum_mq (h : DumP a b c m) (hd : 0 ≤ d ∧ d ≤ 99) (he : 0 ≤ e ∧ e ≤ 1000000) : MQ (dumA a b m) (dumA b a m) (dumC c d e) := by
  obtain ⟨hf, h1, h2, h3⟩ := h
  have hm := hf.mc
  have ha5 := hm.a5
  have hb5 := hm.b5
  have hr := hf.rows
  have hw := hf.cols
  obtain ⟨a1, a2, a3⟩ := okMass_small hf.ha
  obtain ⟨b1, b2, b3⟩ := okMass_small hf.hb
  rw [lsum_sumL] at a2 a3 h2
  rw [lsum_sumL] at b2 b3 h3
  have hA : ∀ (x y : List Int), Bnd 0 200 x → 0 ≤ sumL y - m ∧ sumL y - m ≤ 200 → Bnd 0 200 (dumA x y m) := fun x y hx hy n hn => by
    unfold dumA at hn
    rw [lsum_sumL] at hn
    rcases List.mem_append.1 hn with h | h
    · exact hx n h
    · have : n = sumL y - m := by simpa using h
      omega
  refine ⟨by rw [dumA_len]; omega, by rw [dumA_len]; omega, hA a b hm.ha (by omega), hA b a hm.hb (by omega), ⟨by rw [dumC_len, dumA_len]; omega, fun i hi => ?_, fun i j hi hj => ?_⟩, ?_⟩
  · rw [dumA_len] at hi ⊢
    rcases Nat.lt_or_ge i c.length with h | h
    · rw [dumC_row h, List.length_append, hf.hc.len h, hw]; rfl
    · obtain rfl : i = c.length := by omega
      rw [dumC_last, List.length_append, List.length_replicate, hw]; rfl
  · rw [dumA_len] at hi hj
    have h9 := dumC_at (d := d) (e := e) hf.hc (i := i) (j := j) (by omega) (by omega)
    unfold gt at h9
    rw [h9]
    unfold costD
    split
    · rename_i h
      split
      · rename_i h'
        have k9 : 0 ≤ gt c i j ∧ gt c i j ≤ 99 := hf.hc.at h h'
        exact ⟨k9.1, Int.le_trans k9.2 (by omega)⟩
      · omega
    · split
      · omega
      · omega
  · show sumL (dumA a b m) = sumL (dumA b a m)
    have key : ∀ x y : List Int, sumL (dumA x y m) = sumL x + (sumL y - m) := fun x y => by
      unfold sumL
      rw [dumA_len, sg_congr _ fun i hi => dumA_at hi, sg_withD]
      rfl
    rw [key, key]
    omega
end
end Go.Proofs.Ytogopoiohckpdae
