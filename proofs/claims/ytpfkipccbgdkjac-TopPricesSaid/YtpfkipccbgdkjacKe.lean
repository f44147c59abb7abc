/- Tolls, units more, greater and smaller prices: plain laws. Conditions: in each lemma. -/
import Derived.Test.YtpfkipccbgdkjacKa
import Derived.Test.YtpfkipccbgdkjacHk
namespace Go.Proofs.Ytpfkipccbgdkjac
open Go.RowKit Go.VS Go.OT
set_option linter.unusedSimpArgs false
set_option linter.unusedVariables false

theorem wide_small {p : List (List Int)} (h : ¬ wideV p = true) : Small p := by
  unfold wideV at h
  rw [Bool.or_eq_true] at h
  have h1 : ¬ (p.any fun r => decide (50 < r.length)) = true := fun h2 => h (.inl h2)
  have h2 : ¬ 50 < p.length := fun h2 => h (.inr (decide_eq_true h2))
  refine ⟨by omega, fun r hr => ?_⟩
  have := of_decide_eq_false (any_false h1 hr)
  omega
theorem long_small {a b : List Int} {c : List (List Int)} (h : ¬ longJ (a, b, c) = true) : Small c ∧ ¬ 50 < a.length ∧ ¬ 50 < b.length := by
  unfold longJ at h
  simp only [Bool.or_eq_true, decide_eq_true_eq] at h
  exact ⟨wide_small fun h2 => h (.inr (.inr h2)), fun h2 => h (.inl h2), fun h2 => h (.inr (.inl h2))⟩

section
variable {a b : List Int} {c t : List (List Int)} {p : Prices} {u v : List Int}
theorem wpre_pr (h : errFits a b c = 0) (h5 : ArePr c p) : WPre a b p := by
  obtain ⟨h3, _⟩ := errFits_ok h
  have k1 := okMass_len h3.ha
  have k2 := okMass_len h3.hb
  have k3 := h5.row
  have k4 := h5.col
  have k5 := h3.rows
  have k6 := h3.cols
  exact ⟨by omega, by omega, by omega, by omega, fun i hi => by have := okMass_mem h3.ha _ (getD_mem 0 hi); omega, fun i hi => by have := okMass_mem h3.hb _ (getD_mem 0 hi); omega, fun i hi => k3.2 i (by omega), fun i hi => k4.2 i (by omega)⟩
theorem worth_bnd (h : WPre a b p) : -2400000 ≤ worthV a b p ∧ worthV a b p ≤ 2400000 := by
  have h1 := dot_bnd h.ha h.hp a.length (Nat.le_refl _)
  have h2 := dot_bnd h.hb h.hq b.length (Nat.le_refl _)
  have h3 := h.a6
  have h4 := h.b6
  unfold worthV
  omega
theorem least_bnd (h : errFits a b c = 0) : 0 ≤ leastV a b c ∧ leastV a b c ≤ 7200000000 := by
  have h2 := fit_cheap (errFits_ok h).1.mc
  have h3 := h2.spend (cheapV a b c).length (Nat.le_refl _)
  have h4 := h2.rows.2
  rw [leastV_0 h]
  unfold spend
  omega
theorem spend_bnd (h : errSpend c t = 0) : 0 ≤ spendV c t ∧ spendV c t ≤ 7200000000 := by
  obtain ⟨h1, h2, h3, h4⟩ := errSpend_ok h
  have h5 := fit_of h1 h2.tab h3 h4
  have h6 := h5.spend t.length (Nat.le_refl _)
  have h7 := h5.rows.2
  rw [spendV_ok h]
  unfold spend
  omega

/-! ### Tolls -/
theorem tollV_len (c : List (List Int)) (u v : List Int) : (tollV c u v).length = c.length := tbl_len _ _
theorem tollV_row {i : Nat} (hi : i < c.length) : ((tollV c u v).getD i []).length = wid c := by
  unfold tollV
  rw [tbl_get _ _ hi, tbl_len]
theorem tollV_at {i j : Nat} (hi : i < c.length) (hj : j < wid c) : gt (tollV c u v) i j = gt c i j + (ga u i + ga v j) := by
  unfold tollV gt
  rw [tbl_get _ _ hi, tbl_get _ _ hj]
  unfold ga
  omega
theorem errToll_ok (h : errToll c u v = 0) : InTab 0 99 c ∧ ArePr c (u, v) ∧ InTab 0 99 (tollV c u v) ∧ tollR c u v = tollV c u v := by
  by_cases h1 : InTab 0 99 c ∧ ArePr c (u, v)
  · by_cases h2 : InTab 0 99 (tollV c u v)
    · exact ⟨h1.1, h1.2, h2, (errToll_0 h1.1 h1.2 h2).2⟩
    · rw [(errToll_3 h1.1 h1.2 h2).1] at h; omega
  · rw [(errToll_1 h1).1] at h; omega
theorem cst_add (R C : Nat) (c d p : Nat → Nat → Int) : cst R C (fun i j => c i j + d i j) p = cst R C c p + cst R C d p := by
  unfold cst
  rw [← sg_add]
  refine sg_congr R fun i _ => ?_
  rw [← sg_add]
  exact sg_congr C fun j _ => Int.add_mul ..
theorem cst_congr {R C : Nat} {c d p : Nat → Nat → Int} (h : ∀ i j, i < R → j < C → c i j = d i j) : cst R C c p = cst R C d p :=
  sg_congr R fun i hi => sg_congr C fun j hj => by rw [h i j hi hj]
theorem toll_cst (hf : errFits a b c = 0) {q : Nat → Nat → Int} (hq : IsPlan a.length b.length (ga a) (ga b) q) : cst a.length b.length (gt (tollV c u v)) q = cst a.length b.length (gt c) q + worthV a b (u, v) := by
  obtain ⟨d1, d2, _⟩ := fits_dims hf
  rw [cst_congr fun i j hi hj => tollV_at (u := u) (v := v) (by omega : i < c.length) (by omega : j < wid c), cst_add, cst_prices, worth_eq]
  congr 1
  exact worth_congr (fun i hi => hq.row i hi) fun j hj => hq.col j hj
/-- Under tolls the least grows by what they are worth. -/
theorem toll_least (hf : errFits a b c = 0) (ht : errToll c u v = 0) : errFits a b (tollR c u v) = 0 ∧ leastV a b (tollR c u v) = leastV a b c + worthV a b (u, v) ∧ WPre a b (u, v) := by
  obtain ⟨k1, k2, k3, k4⟩ := errToll_ok ht
  obtain ⟨d1, d2, d3, d4, d5, d6⟩ := fits_dims hf
  rw [k4]
  have hw : wid (tollV c u v) = wid c := tollV_row (by have := d3.rows; omega)
  have hf' : errFits a b (tollV c u v) = 0 := errFits_0 ⟨d4, d5, k3, by rw [tollV_len]; exact d1, by rw [hw]; exact d2⟩ d6
  refine ⟨hf', ?_, wpre_pr hf k2⟩
  obtain ⟨r, s, h1, h2, _⟩ := (fits_best hf).good
  have hp := (fits_best hf).plan
  rw [least_of hf' hp (u := fun i => - r i + ga u i) (v := fun j => s j + ga v j) (fun i j hi hj => ?_) (fun i j hi hj h0 => ?_), toll_cst hf hp, cheap_cst hf]
  · have := h1 i j hi hj
    rw [tollV_at (by omega) (by omega)]
    dsimp only at this ⊢
    omega
  · have := h2 i j hi hj h0
    rw [tollV_at (by omega) (by omega)]
    dsimp only at this ⊢
    omega

/-! ### A unit more -/
def incr (l : List Int) (i : Nat) : List Int := l.set i (l.getD i 0 + 1)
theorem incr_len (l : List Int) (i : Nat) : (incr l i).length = l.length := List.length_set
theorem incr_at {l : List Int} {i : Nat} (h : i < l.length) (k : Nat) : ga (incr l i) k = ga l k + if k = i then 1 else 0 := by
  unfold incr ga
  rw [Go.OT.ga_set h]
  by_cases hk : k = i
  · subst hk; rw [if_pos rfl, if_pos rfl]
  · rw [if_neg hk, if_neg hk]; omega
theorem incr_ok {l : List Int} (h : okMass l = true) {i : Nat} (hi : i < l.length) (h30 : ¬ ga l i = 30) : okMass (incr l i) = true := by
  have h1 := okMass_len h
  unfold okMass
  rw [Bool.and_eq_true, decide_eq_true_eq, List.all_eq_true, incr_len]
  refine ⟨h1, fun x hx => ?_⟩
  rw [decide_eq_true_eq]
  obtain ⟨k, hk, rfl⟩ := List.getElem_of_mem hx
  rw [incr_len] at hk
  have h2 := incr_at hi k
  have h3 := okMass_at h hk
  have h4 := okMass_at h hi
  have h5 : ga (incr l i) k = (incr l i)[k] := by
    unfold ga
    rw [List.getD_eq_getElem?_getD, List.getElem?_eq_getElem (by rw [incr_len]; exact hk)]
    rfl
  rw [← h5, h2]
  split
  · rename_i e; subst e; omega
  · omega
theorem incr_sum {l : List Int} {i : Nat} (hi : i < l.length) : lsum (incr l i) = lsum l + 1 := by
  rw [← sg_lsum, ← sg_lsum]
  unfold sumL
  rw [incr_len, sg_congr l.length fun k _ => incr_at hi k, sg_add, sg_one, if_pos hi]
theorem incr_fits (hf : errFits a b c = 0) {r k : Nat} (hr : r < a.length) (hk : k < b.length) (h1 : ¬ ga a r = 30) (h2 : ¬ ga b k = 30) : errFits (incr a r) (incr b k) c = 0 := by
  obtain ⟨d1, d2, d3, d4, d5, d6⟩ := fits_dims hf
  exact errFits_0 ⟨incr_ok d4 hr h1, incr_ok d5 hk h2, d3, by rw [incr_len]; exact d1, by rw [incr_len]; exact d2⟩ (by rw [incr_sum hr, incr_sum hk, d6])
theorem incr_plan (hf : errFits a b c = 0) {r k : Nat} (hr : r < a.length) (hk : k < b.length) {q : Nat → Nat → Int} (hq : IsPlan a.length b.length (ga a) (ga b) q) : IsPlan a.length b.length (ga (incr a r)) (ga (incr b k)) (bump q r k 1) := by
  refine ⟨fun i j hi hj => ?_, fun i hi => ?_, fun j hj => ?_⟩
  · have := hq.nn i j hi hj
    unfold bump
    split <;> omega
  · rw [rowS_bump _ hk, hq.row i hi, incr_at hr]
  · rw [colS_bump _ hr, hq.col j hj, incr_at hk]
/-- A unit more costs at most its cost, and at least its prices. -/
theorem incr_least (hf : errFits a b c = 0) {r k : Nat} (hr : r < a.length) (hk : k < b.length) (h1 : ¬ ga a r = 30) (h2 : ¬ ga b k = 30) :
    leastV (incr a r) (incr b k) c - leastV a b c ≤ gt c r k ∧ ga (pricesV a b c).1 r + ga (pricesV a b c).2 k ≤ leastV (incr a r) (incr b k) c - leastV a b c := by
  have hf' := incr_fits hf hr hk h1 h2
  have hp := (fits_best hf).plan
  have l1 := incr_len a r
  have l2 := incr_len b k
  constructor
  · obtain ⟨r1, s1, g1, g2, _⟩ := (fits_best hf').good
    have k1 := incr_plan hf hr hk hp
    have k2 : worth a.length b.length (ga (incr a r)) (ga (incr b k)) (fun i => - r1 i) s1 ≤ cst a.length b.length (gt c) (bump (gt (cheapV a b c)) r k 1) := by
      rw [l1, l2] at g1
      exact k1.worth_le g1
    have k3 := (fits_best hf').plan
    have k4 := k3.worth_eq g2
    rw [← cheap_cst hf', l1, l2] at k4
    rw [cst_bump _ _ hr hk, ← cheap_cst hf] at k2
    omega
  · obtain ⟨q1, q2, _⟩ := prices_ok hf
    have k3 := (fits_best hf').plan
    rw [l1, l2] at k3
    have k4 := k3.worth_le q1
    have k5 := hp.worth_eq q2
    have e1 := cheap_cst hf'
    rw [l1, l2] at e1
    rw [← e1] at k4
    rw [← cheap_cst hf] at k5
    have k6 : worth a.length b.length (ga (incr a r)) (ga (incr b k)) (ga (pricesV a b c).1) (ga (pricesV a b c).2) = worth a.length b.length (ga a) (ga b) (ga (pricesV a b c).1) (ga (pricesV a b c).2) + (ga (pricesV a b c).1 r + ga (pricesV a b c).2 k) := by
      unfold worth
      have e2 : sg a.length (fun i => ga (incr a r) i * ga (pricesV a b c).1 i) = sg a.length (fun i => ga a i * ga (pricesV a b c).1 i) + ga (pricesV a b c).1 r := by
        rw [sg_upd (f := fun i => ga a i * ga (pricesV a b c).1 i) hr fun i hi hir => by
          rw [incr_at hr, if_neg hir, Int.add_zero]]
        rw [incr_at hr, if_pos rfl, Int.add_mul]
        omega
      have e3 : sg b.length (fun i => ga (incr b k) i * ga (pricesV a b c).2 i) = sg b.length (fun i => ga b i * ga (pricesV a b c).2 i) + ga (pricesV a b c).2 k := by
        rw [sg_upd (f := fun i => ga b i * ga (pricesV a b c).2 i) hk fun i hi hir => by
          rw [incr_at hk, if_neg hir, Int.add_zero]]
        rw [incr_at hk, if_pos rfl, Int.add_mul]
        omega
      rw [e2, e3]
      omega
    omega

/-! ### Greater prices of rows, smaller ones of columns -/
def joinV (f : Int → Int → Int) (l m : List Int) : List Int := tbl l.length fun i => f (l.getD i 0) (m.getD i 0)
def upperV (p q : Prices) : Prices := (joinV max p.1 q.1, joinV min p.2 q.2)
theorem joinV_at {f : Int → Int → Int} {l m : List Int} {i : Nat} (hi : i < l.length) : (joinV f l m).getD i 0 = f (l.getD i 0) (m.getD i 0) := tbl_get _ _ hi
theorem joinV_len (f : Int → Int → Int) (l m : List Int) : (joinV f l m).length = l.length := tbl_len _ _
theorem joinV_in {f : Int → Int → Int} (hf : ∀ x y, f x y = x ∨ f x y = y) {n lo hi : Int} {l m : List Int} (h1 : InL n lo hi l) (h2 : InL n lo hi m) : InL n lo hi (joinV f l m) := by
  refine ⟨by rw [joinV_len]; exact h1.1, fun x hx => ?_⟩
  obtain ⟨i, hi, rfl⟩ := List.getElem_of_mem hx
  rw [joinV_len] at hi
  have e : (joinV f l m)[i]'(by rw [joinV_len]; exact hi) = (joinV f l m).getD i 0 := by
    rw [List.getD_eq_getElem?_getD, List.getElem?_eq_getElem (by rw [joinV_len]; exact hi)]
    rfl
  have k1 := inL_at h1 i hi
  have k2 := inL_at h2 i (by have := h1.1; have := h2.1; omega)
  rw [e, joinV_at hi]
  rcases hf (l.getD i 0) (m.getD i 0) with h | h <;> rw [h] <;> assumption
variable {q : Prices}
theorem upper_pr (h1 : errPr c p = 0) (h2 : errPr c q = 0) : errPr c (upperV p q) = 0 := by
  obtain ⟨i1, i2, i3⟩ := errPr_ok h1
  obtain ⟨_, j2, j3⟩ := errPr_ok h2
  have k1 := i2.row.1
  have k2 := i2.col.1
  refine errPr_0 i1 ⟨joinV_in (fun x y => by omega) i2.1 j2.1, joinV_in (fun x y => by omega) i2.2 j2.2⟩ fun i hi j hj => ?_
  have g1 := i3 i hi j hj
  have g2 := j3 i hi j hj
  unfold upperV
  dsimp only
  rw [joinV_at (by omega), joinV_at (by omega)]
  omega
theorem worth_tight (hf : errFits a b c = 0) (h1 : errPr c p = 0) (hw : worthV a b p = leastV a b c) : Tight a.length b.length (gt c) (gt (cheapV a b c)) (ga p.1) (ga p.2) :=
  (fits_best hf).plan.tight_of (pr_holds hf h1) (by rw [← cheap_cst hf, ← hw, worth_eq])
theorem tight_worth (hf : errFits a b c = 0) (ht : Tight a.length b.length (gt c) (gt (cheapV a b c)) (ga p.1) (ga p.2)) : worthV a b p = leastV a b c := by
  rw [worth_eq, (fits_best hf).plan.worth_eq ht, cheap_cst hf]
/-- If both prove the least, so do these. -/
theorem upper_worth (hf : errFits a b c = 0) (h1 : errPr c p = 0) (h2 : errPr c q = 0) (e1 : worthV a b p = leastV a b c) (e2 : worthV a b q = leastV a b c) : worthV a b (upperV p q) = leastV a b c := by
  have t1 := worth_tight hf h1 e1
  have t2 := worth_tight hf h2 e2
  obtain ⟨d1, d2, _⟩ := fits_dims hf
  obtain ⟨_, i2, i3⟩ := errPr_ok h1
  have k1 := i2.row.1
  have k2 := i2.col.1
  refine tight_worth hf fun i j hi hj h0 => ?_
  have g1 := t1 i j hi hj h0
  have g2 := t2 i j hi hj h0
  unfold upperV ga at *
  dsimp only
  rw [joinV_at (by omega), joinV_at (by omega)]
  omega

end
end Go.Proofs.Ytpfkipccbgdkjac
