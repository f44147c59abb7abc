/- The plain law of TopPictures: a picture painted by a cheapest plan. Conditions: in each lemma. -/
import Derived.Test.YtikjejmekfpofaaDc
import Derived.Test.YtikjejmekfpofaaDe
import Derived.Test.YtikjejmekfpofaaKa
namespace Go.Proofs.Ytikjejmekfpofaa
open Go.RowKit Go.VS Go.OT
set_option linter.unusedSimpArgs false
set_option linter.unusedVariables false

/-! ### Counting -/
theorem cntV_append (c : Int) (l m : List Int) : cntV c (l ++ m) = cntV c l + cntV c m := by
  unfold cntV
  rw [List.count_append]; omega
theorem cntV_rep (c v : Int) (n : Nat) : cntV c (List.replicate n v) = if v = c then (n : Int) else 0 := by
  unfold cntV
  rw [List.count_replicate]
  simp only [beq_iff_eq]
  split <;> rfl
theorem sprK_cnt {r : List Int} (h : ∀ x ∈ r, 0 ≤ x) (j : Nat) : ∀ {k : Nat}, k ≤ r.length → cntV (j : Int) (sprK r k) = if j < k then r.getD j 0 else 0
  | 0, _ => by simp [sprK_zero, cntV]
  | k + 1, hk => by
    have h0 := h _ (getD_mem 0 (show k < r.length by omega))
    rw [sprK_succ, cntV_append, sprK_cnt h j (by omega), cntV_rep]
    by_cases h1 : j < k
    · rw [if_pos h1, if_neg (by omega), if_pos (by omega), Int.add_zero]
    · rw [if_neg h1]
      by_cases h2 : j = k
      · subst h2
        rw [if_pos rfl, if_pos (by omega)]; omega
      · rw [if_neg (by omega), if_neg (by omega)]; rfl
theorem spr_cnt {r : List Int} (h : ∀ x ∈ r, 0 ≤ x) {j : Nat} (hj : j < r.length) : cntV (j : Int) (spr r) = r.getD j 0 := by
  unfold spr
  rw [sprK_cnt h j (Nat.le_refl _), if_pos hj]
theorem spr_mem {r : List Int} {x : Int} (h : x ∈ spr r) : ∃ j, j < r.length ∧ x = (j : Int) ∧ 0 < r.getD j 0 := by
  unfold spr sprK at h
  obtain ⟨j, h1, h2⟩ := List.mem_flatMap.1 h
  obtain ⟨h3, h4⟩ := List.mem_replicate.1 h2
  exact ⟨j, List.mem_range.1 h1, h4, by omega⟩

/-- A sum over the pixels is a sum over the colours. -/
theorem pix_sum {l : List Int} {n : Nat} (h : ∀ c ∈ l, 0 ≤ c ∧ c < n) (f : Nat → Int) : ∀ {m : Nat}, m ≤ l.length → sg m (fun k => f (l.getD k 0).toNat) = sg n fun c => cntV (c : Int) (l.take m) * f c
  | 0, _ => by
    have : sg n (fun c => cntV (c : Int) (l.take 0) * f c) = sg n fun _ => 0 := sg_congr n fun i _ => by simp [cntV]
    rw [this, sg_zero]; rfl
  | m + 1, hm => by
    have h1 := h _ (getD_mem 0 (show m < l.length by omega))
    have h2 : (l.getD m 0).toNat < n := by omega
    rw [sg_upd (f := fun c => cntV (c : Int) (l.take m) * f c) h2 (fun i hi hne => by rw [cntV_step _ (by omega), if_neg (by omega), Int.add_zero])]
    show sg m _ + f (l.getD m 0).toNat = _
    rw [pix_sum h f (by omega), cntV_step _ (by omega), if_pos (by omega), Int.add_mul]
    omega

section
variable {l : List Int} {p : List (List Int)}
theorem pix_cnt (hin : InPlan p) (hp : ∀ c ∈ l, 0 ≤ c ∧ c < (p.length : Int)) (hr : rowsP p = palV l p.length) (j : Nat) : ∀ {m : Nat}, m ≤ l.length →
    cntV (j : Int) (tbl m (pixV l p)) = sg p.length fun c => cntV (j : Int) ((spr (p.getD c [])).take (cntV (c : Int) (l.take m)).toNat)
  | 0, _ => by
    have : (sg p.length fun c => cntV (j : Int) ((spr (p.getD c [])).take (cntV (c : Int) (l.take 0)).toNat)) = sg p.length fun _ => 0 := sg_congr _ fun i _ => by simp [cntV]
    rw [this, sg_zero, tbl_zero]; rfl
  | m + 1, hm => by
    have h1 := hp _ (getD_mem 0 (show m < l.length by omega))
    have h2 : (l.getD m 0).toNat < p.length := by omega
    have h3 := cntV_le (l.getD m 0) (l.take m)
    have h4 : (cntV (l.getD m 0) (l.take m)).toNat < (spr (p.getD (l.getD m 0).toNat [])).length := by
      have e0 := spr_len hin h2
      rw [row_cnt hr h2, Int.toNat_of_nonneg h1.1] at e0
      have e1 := cntV_step (l.getD m 0) (show m < l.length by omega)
      rw [if_pos rfl] at e1
      have e2 := cntV_take_le (l.getD m 0) l (m + 1)
      omega
    rw [sg_upd (f := fun c => cntV (j : Int) ((spr (p.getD c [])).take (cntV (c : Int) (l.take m)).toNat)) h2 (fun i hi hne => by rw [cntV_step _ (show m < l.length by omega), if_neg (by omega), Int.add_zero]),
      ← pix_cnt hin hp hr j (by omega), tbl_succ, cntV_append, cntV_step _ (show m < l.length by omega), if_pos (by omega), Int.toNat_of_nonneg h1.1,
      show (cntV (l.getD m 0) (l.take m) + 1).toNat = (cntV (l.getD m 0) (l.take m)).toNat + 1 by omega, List.take_succ_eq_append_getElem h4, cntV_append]
    have e3 : pixV l p m = (spr (p.getD (l.getD m 0).toNat []))[(cntV (l.getD m 0) (l.take m)).toNat] := by
      unfold pixV
      rw [List.getD_eq_getElem?_getD (l := spr _), List.getElem?_eq_getElem h4]; rfl
    rw [e3]
    omega

/-- How often a colour is in the painted picture. -/
theorem painted_cnt (hin : InPlan p) (hp : ∀ c ∈ l, 0 ≤ c ∧ c < (p.length : Int)) (hr : rowsP p = palV l p.length) {j : Nat} (hj : j < wid p) : cntV (j : Int) (painted l p) = sg p.length fun c => gt p c j := by
  unfold painted
  rw [pix_cnt hin hp hr j (Nat.le_refl _)]
  refine sg_congr _ fun i hi => ?_
  have e0 := spr_len hin hi
  rw [row_cnt hr hi] at e0
  rw [List.take_length, List.take_of_length_le (by omega), spr_cnt (fun x hx => ?_) (by rw [hin.row hi]; exact hj)]
  · rfl
  · obtain ⟨k, hk, rfl⟩ := List.getElem_of_mem hx
    have := hin.at hi (show k < wid p by rw [← hin.row hi]; exact hk)
    rw [List.getD_eq_getElem?_getD (l := p.getD i []), List.getElem?_eq_getElem hk] at this
    exact this.1

/-- What a painted pixel is. -/
theorem pix_at (hin : InPlan p) (hp : ∀ c ∈ l, 0 ≤ c ∧ c < (p.length : Int)) (hr : rowsP p = palV l p.length) {k : Nat} (hk : k < l.length) :
    ∃ j, j < wid p ∧ pixV l p k = (j : Int) ∧ 0 < (p.getD (l.getD k 0).toNat []).getD j 0 := by
  have h1 := hp _ (getD_mem 0 hk)
  have h2 : (l.getD k 0).toNat < p.length := by omega
  have h3 := cntV_le (l.getD k 0) (l.take k)
  have h4 : (cntV (l.getD k 0) (l.take k)).toNat < (spr (p.getD (l.getD k 0).toNat [])).length := by
    have e0 := spr_len hin h2
    rw [row_cnt hr h2, Int.toNat_of_nonneg h1.1] at e0
    have e1 := cntV_step (l.getD k 0) hk
    rw [if_pos rfl] at e1
    have e2 := cntV_take_le (l.getD k 0) l (k + 1)
    omega
  obtain ⟨j, h5, h6, h7⟩ := spr_mem (getD_mem 0 h4)
  rw [hin.row h2] at h5
  exact ⟨j, h5, h6, h7⟩
end

/-! ### The law -/
def payS (c : List (List Int)) (l d : List Int) (k : Nat) : Int := sg k fun i => (c.getD (l.getD i 0).toNat []).getD (d.getD i 0).toNat 0

theorem payS_bound {c : List (List Int)} (hc : InTab 0 99 c) {l d : List Int} (hl : ∀ x ∈ l, 0 ≤ x ∧ x < (c.length : Int)) (hd : ∀ x ∈ d, 0 ≤ x ∧ x < (wid c : Int)) (he : l.length = d.length) : ∀ {k : Nat}, k ≤ l.length → 0 ≤ payS c l d k ∧ payS c l d k ≤ 99 * k
  | 0, _ => by simp [payS, sg]
  | k + 1, hk => by
    obtain ⟨h1, h2⟩ := payS_bound hc hl hd he (k := k) (by omega)
    have h3 := hl _ (getD_mem 0 (show k < l.length by omega))
    have h4 := hd _ (getD_mem 0 (show k < d.length by omega))
    have h5 := hc.at (i := (l.getD k 0).toNat) (j := (d.getD k 0).toNat) (by omega) (by omega)
    have e : payS c l d (k + 1) = payS c l d k + (c.getD (l.getD k 0).toNat []).getD (d.getD k 0).toNat 0 := rfl
    omega

section
variable {l d : List Int} {c : List (List Int)} {n : Nat}
theorem errPal_ok (h : errPal l (n : Int) = 0) : (1 ≤ n ∧ n ≤ 5) ∧ okPic l n = true ∧ (∀ x ∈ l, 0 ≤ x ∧ x < (n : Int)) ∧ okMass (palV l n) = true := by
  unfold errPal at h
  split at h
  · rename_i h1
    split at h
    · omega
    · rename_i h2
      rw [Int.toNat_natCast] at h2
      obtain ⟨k1, k2, k3⟩ := h1
      refine ⟨by omega, k3, fun x hx => by have := (okPic_iff.1 k3).2 x hx; omega, ?_⟩
      simp only [okMass, Bool.and_eq_true, decide_eq_true_eq, List.all_eq_true, palV_len]
      refine ⟨by omega, fun x hx => ?_⟩
      obtain ⟨i, hi, rfl⟩ := List.getElem_of_mem hx
      have e0 : (palV l n)[i] = (palV l n).getD i 0 := by rw [List.getD_eq_getElem?_getD, List.getElem?_eq_getElem hi]; rfl
      have e1 := maxP_ge (l := palV l n) (k := (palV l n).length - 1) (i := i) (by omega)
      have e2 := (cntV_le (i : Int) l).1
      rw [palV_len] at hi
      have e3 : (palV l n).getD i 0 = cntV (i : Int) l := tbl_get _ _ hi
      unfold maxV at h2
      rw [e0]
      omega
  · omega
theorem errPal_of (h1 : 1 ≤ n ∧ n ≤ 5) (h2 : okPic l n = true) (h3 : okMass (palV l n) = true) : errPal l (n : Int) = 0 := by
  refine errPal_0 ⟨by omega, by omega, h2⟩ fun h => ?_
  rw [Int.toNat_natCast] at h
  obtain ⟨i, h4, h5⟩ := maxP_gt h
  rw [palV_len] at h4
  have := okMass_mem h3 _ (getD_mem 0 (show i < (palV l n).length by rw [palV_len]; omega))
  omega
theorem pal_sum (h : ∀ x ∈ l, 0 ≤ x ∧ x < (n : Int)) (f : Nat → Int) : sg l.length (fun k => f (l.getD k 0).toNat) = sg n fun i => ga (palV l n) i * f i := by
  rw [pix_sum h f (Nat.le_refl _), List.take_length]
  exact sg_congr n fun i hi => by unfold ga palV; rw [tbl_get _ _ hi]
theorem pal_total (h : ∀ x ∈ l, 0 ≤ x ∧ x < (n : Int)) : lsum (palV l n) = l.length := by
  have e := pal_sum h (fun _ => 1)
  rw [← sg_lsum, sumL, palV_len]
  have e1 : sg n (fun i => ga (palV l n) i * 1) = sg n (ga (palV l n)) := sg_congr n fun i _ => Int.mul_one _
  rw [e1] at e
  rw [← e]
  have : ∀ m : Nat, sg m (fun _ => (1 : Int)) = m := by
    intro m
    induction m with
    | zero => rfl
    | succ m ih => simp only [sg, ih]; omega
  exact this _
end

structure TopF (l d : List Int) (c : List (List Int)) : Prop where
  fits : errFits (palV l c.length) (palV d (wid c)) c = 0
  paint : errPaint l (cheapV (palV l c.length) (palV d (wid c)) c) = 0
  back : errPal (painted l (cheapV (palV l c.length) (palV d (wid c)) c)) (wid c : Int) = 0
  same : palV (painted l (cheapV (palV l c.length) (palV d (wid c)) c)) (wid c) = palV d (wid c)
  proof : errCP l (painted l (cheapV (palV l c.length) (palV d (wid c)) c)) c (pricesV (palV l c.length) (palV d (wid c)) c) = 0
  sum : payS c l (painted l (cheapV (palV l c.length) (palV d (wid c)) c)) l.length = leastV (palV l c.length) (palV d (wid c)) c
  own : leastV (palV l c.length) (palV d (wid c)) c ≤ payS c l d l.length
  iff : decide (errCP l d c (pricesV (palV l c.length) (palV d (wid c)) c) = 0) = decide (payS c l d l.length = leastV (palV l c.length) (palV d (wid c)) c)

theorem top_facts {l d : List Int} {c : List (List Int)} (hc : InTab 0 99 c) (hl : errPal l (c.length : Int) = 0) (hd : errPal d (wid c : Int) = 0) (he : l.length = d.length) : TopF l d c := by
  obtain ⟨a1, a2, a3, a4⟩ := errPal_ok hl
  obtain ⟨b1, b2, b3, b4⟩ := errPal_ok hd
  have hf : errFits (palV l c.length) (palV d (wid c)) c = 0 := by
    unfold errFits
    rw [if_pos ⟨a4, b4, hc, (palV_len _ _).symm, (palV_len _ _).symm⟩, if_pos (by rw [pal_total a3, pal_total b3, he])]
  have hbest := best_own hf
  obtain ⟨_, k1, k2, k3⟩ := errBest_ok hbest
  obtain ⟨q1, q2, q3, q4, q5, q6⟩ := errCheck_ok k1
  obtain ⟨r1, r2, r3, _⟩ := check_plan k1
  rw [palV_len] at r2 r3
  have hw := (best_values hbest)
  have hwl := (best_least hbest).2
  generalize hT : cheapV (palV l c.length) (palV d (wid c)) c = t at *
  generalize hP : pricesV (palV l c.length) (palV d (wid c)) c = p at *
  have hrow : rowsP t = palV l t.length := by rw [q5, r2]
  have a3' : ∀ x ∈ l, 0 ≤ x ∧ x < (t.length : Int) := by rw [r2]; exact a3
  have hpix := fun {k : Nat} (hk : k < l.length) => pix_at q3 a3' hrow hk
  have hplen : (painted l t).length = l.length := tbl_len _ _
  have hpget : ∀ k, k < l.length → (painted l t).getD k 0 = pixV l t k := fun k hk => tbl_get _ _ hk
  have hpmem : ∀ x ∈ painted l t, 0 ≤ x ∧ x < (wid c : Int) := by
    intro x hx
    obtain ⟨k, hk, rfl⟩ := List.getElem_of_mem hx
    have hk' : k < l.length := by rw [hplen] at hk; exact hk
    obtain ⟨j, g1, g2, _⟩ := hpix hk'
    have e0 := hpget k hk'
    rw [List.getD_eq_getElem?_getD, List.getElem?_eq_getElem hk, Option.getD_some, g2] at e0
    rw [e0]
    omega
  have hsame : palV (painted l t) (wid c) = palV d (wid c) := by
    conv => rhs; rw [list_tbl (palV d (wid c)) 0, palV_len]
    unfold palV
    refine tbl_congr fun j hj => ?_
    rw [painted_cnt q3 a3' hrow (by omega)]
    have e1 := r1.col j (by rw [palV_len]; exact hj)
    rw [palV_len] at e1
    rw [r2]
    exact e1
  have hokp : okPic (painted l t) (wid c) = true := by
    obtain ⟨g1, g2⟩ := okPic_iff.1 a2
    exact okPic_iff.2 ⟨by rw [hplen]; exact g1, fun x hx => by have := hpmem x hx; have := hc.cols; omega⟩
  have hpt : PixT l (painted l t) c p := by
    intro k hk
    obtain ⟨j, g1, g2, g3⟩ := hpix hk
    have h2 := a3' _ (getD_mem 0 hk)
    rw [hpget k hk, g2, Int.toNat_natCast]
    exact k3 _ (by omega) j g1 g3
  -- sums of prices
  have hval : ∀ d' : List Int, d'.length = l.length → (∀ x ∈ d', 0 ≤ x ∧ x < (wid c : Int)) → palV d' (wid c) = palV d (wid c) →
      sg l.length (fun k => p.1.getD (l.getD k 0).toNat 0 + p.2.getD (d'.getD k 0).toNat 0) = leastV (palV l c.length) (palV d (wid c)) c := by
    intro d' e1 e2 e3
    rw [sg_add, pal_sum a3 (fun i => p.1.getD i 0), ← hwl, worth_eq, palV_len, palV_len]
    have e4 := pal_sum e2 (fun i => p.2.getD i 0)
    rw [e1, e3] at e4
    rw [e4]
    rfl
  have hh := (errPr_ok k2).2.2
  have hle : leastV (palV l c.length) (palV d (wid c)) c ≤ payS c l d l.length := by
    rw [← hval d he.symm b3 rfl]
    refine sg_le _ fun k hk => ?_
    have g1 := a3 _ (getD_mem 0 hk)
    have g2 := b3 _ (getD_mem 0 (show k < d.length by omega))
    exact hh _ (by omega) _ (by omega)
  refine ⟨hf, ?_, ?_, ?_, ?_, ?_, ?_, ?_⟩
  · rw [hT]
    exact errPaint_0 (errPlan_0 q3) (by rw [r2]; exact a2) hrow
  · rw [hT]
    exact errPal_of b1 hokp (by rw [hsame]; exact b4)
  · rw [hT]; exact hsame
  · rw [hT, hP]
    exact errCP_0 hc ⟨a2, hokp⟩ hplen.symm k2 hpt
  · rw [hT, ← hval (painted l t) hplen hpmem hsame]
    exact sg_congr _ fun k hk => (hpt k hk).symm
  · exact hle
  · rw [hP]
    refine decide_eq_decide.2 ⟨fun h => ?_, fun h => ?_⟩
    · have ht : PixT l d c p := by
        apply Classical.byContradiction
        intro hn
        rw [errCP_7 hc ⟨a2, b2⟩ he k2 hn] at h
        omega
      rw [← hval d he.symm b3 rfl]
      exact sg_congr _ fun k hk => (ht k hk).symm
    · refine errCP_0 hc ⟨a2, b2⟩ he k2 fun k hk => ?_
      rw [← hval d he.symm b3 rfl] at h
      have hnn : ∀ i, i < l.length → 0 ≤ (c.getD (l.getD i 0).toNat []).getD (d.getD i 0).toNat 0 - (p.1.getD (l.getD i 0).toNat 0 + p.2.getD (d.getD i 0).toNat 0) := fun i hi => by
        have g1 := a3 _ (getD_mem 0 hi)
        have g2 := b3 _ (getD_mem 0 (show i < d.length by omega))
        have : p.1.getD (l.getD i 0).toNat 0 + p.2.getD (d.getD i 0).toNat 0 ≤ (c.getD (l.getD i 0).toNat []).getD (d.getD i 0).toNat 0 := hh _ (by omega) _ (by omega)
        omega
      have := sg_all0 l.length hnn (by rw [sg_sub]; unfold payS at h; omega) k hk
      omega
end Go.Proofs.Ytikjejmekfpofaa
