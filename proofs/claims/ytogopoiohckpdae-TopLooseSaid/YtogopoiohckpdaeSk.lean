/- The statement LooseBounds: for every job and offer. No condition. -/
import Derived.Test.YtogopoiohckpdaeSj
namespace Go.Proofs.Ytogopoiohckpdae
open Go.RowKit Go.VS Go.OT
set_option linter.unusedSimpArgs false
set_option linter.unusedVariables false

theorem loose_cost {a b : List Int} {c : List (List Int)} {w : Int} {t : List (List Int)} (h : errLC a b c w t = 0) : looseV a b c w ≤ costL a b c w t := by
  obtain ⟨hw, hp, hl⟩ := errLC_ok h
  have hf := (errWd_ok hw).1
  have hm := hf.mc
  obtain ⟨h1, h2⟩ := lo_part hp hl
  have h3 := loose_le hm w h1
  have hsz : Sz a.length b.length t := ⟨hl.rows, fun i hi => by rw [hp.row (by rw [hl.rows]; exact hi)]; exact hl.cols⟩
  have e : costL a b c w t = spend c t + w * (lsum a + lsum b - 2 * movK t t.length) := if_pos h
  rw [e, spend_cst hsz, lsum_sumL, lsum_sumL, ← h2]
  exact h3
theorem loose_worth {a b : List Int} {c : List (List Int)} {w : Int} {p : Prices} (h : errWL a b c w p = 0) : worthL a b c w p ≤ looseV a b c w := by
  have e : worthL a b c w p = worthV a b p := if_pos h
  have hw : errWd a b c w = 0 := by
    apply Classical.byContradiction
    intro h1
    rw [errWL, if_neg h1] at h
    exact h1 h
  have hp : errPrL c w p = 0 := by rw [errWL, if_pos hw] at h; exact h
  have hf := (errWd_ok hw).1
  have hm := hf.mc
  have hr := hf.rows
  have hc := hf.cols
  unfold errPrL at hp
  split at hp
  · split at hp
    · rename_i h3
      split at hp
      · rename_i hlow
        obtain ⟨k1, k2, k3⟩ := errPr_ok h3
        obtain ⟨r1, _⟩ := k2.row
        obtain ⟨c1, _⟩ := k2.col
        obtain ⟨g1, g2⟩ := (loose_obj hm w (few_spec hm w).1)
        have hk := g2.1 rfl
        obtain ⟨q1, q2, q3⟩ := part_at hm (few_spec hm w).1
        have hat := loose_at hm w hk.1 hk.2
        have hd := loose_dual (w := w) (u := ga p.1) (v := ga p.2) (c := gt c) q1 (fun i j hi hj => k3 i (by omega) j (by omega))
          (fun i hi => hlow _ (List.mem_append_left _ (getD_mem 0 (by omega)))) (fun j hj => hlow _ (List.mem_append_right _ (getD_mem 0 (by omega))))
        rw [q2] at hd
        rw [e, worth_eq]
        have hs1 : sg a.length (ga a) = sumL a := rfl
        have hs2 : sg b.length (ga b) = sumL b := rfl
        rw [hs1, hs2, hat] at hd
        exact hd
      · omega
    · rename_i h3; exact absurd hp h3
  · omega

end Go.Proofs.Ytogopoiohckpdae
