/- One unit more: the chain is followed back, and the plan stays a cheapest one of its size. No program; no condition. -/
import Derived.Test.YtaldpinkkgdklaaPd
namespace Go.OT
open Go.BF
set_option linter.unusedSimpArgs false
set_option linter.unusedVariables false

/-- A table of this size. -/
structure Sz (R C : Nat) (q : List (List Int)) : Prop where
  rows : q.length = R
  cols : ∀ i, i < R → (q.getD i []).length = C
theorem Tb.sz {R C : Nat} {lo hi : Int} {p : List (List Int)} (h : Tb R C lo hi p) : Sz R C p := ⟨h.rows, h.cols⟩

def bump (f : Nat → Nat → Int) (i j : Nat) (d : Int) : Nat → Nat → Int := fun i' j' => f i' j' + if i' = i ∧ j' = j then d else 0

section
variable {R C : Nat} {q : List (List Int)} {i j : Nat} {d : Int}
theorem Sz.add (h : Sz R C q) (hi : i < R) : Sz R C (addAt q i j d) := by
  refine ⟨by simp [addAt, h.rows], fun k hk => ?_⟩
  unfold addAt
  rw [getD_set]
  split
  · rw [List.length_set]; exact h.cols i hi
  · exact h.cols k hk
theorem gt_addAt (h : Sz R C q) (hi : i < R) (hj : j < C) : gt (addAt q i j d) = bump (gt q) i j d := by
  funext i' j'
  unfold gt addAt bump
  dsimp only
  rw [getD_set]
  by_cases h1 : i' = i
  · subst h1
    rw [if_pos ⟨rfl, by rw [h.rows]; exact hi⟩, ga_set (by rw [h.cols i' hi]; exact hj)]
    by_cases h2 : j' = j
    · subst h2
      rw [if_pos rfl, if_pos ⟨rfl, rfl⟩]
    · rw [if_neg h2, if_neg (fun h => h2 h.2)]; omega
  · rw [if_neg (fun h => h1 h.1.symm), if_neg (fun h => h1 h.1)]; omega

theorem rowS_bump (f : Nat → Nat → Int) (hj : j < C) (k : Nat) : rowS C (bump f i j d) k = rowS C f k + if k = i then d else 0 := by
  unfold rowS bump
  rw [sg_add]
  congr 1
  by_cases hk : k = i
  · subst hk
    rw [if_pos rfl]
    refine Eq.trans (sg_congr C fun j' _ => ?_) ((sg_one d j C).trans (if_pos hj))
    by_cases h : j' = j
    · rw [if_pos ⟨rfl, h⟩, if_pos h]
    · rw [if_neg (fun h2 => h h2.2), if_neg h]
  · rw [if_neg hk]
    refine Eq.trans (sg_congr C fun j' _ => ?_) (sg_zero C)
    exact if_neg (fun h => hk h.1)
theorem colS_bump (f : Nat → Nat → Int) (hi : i < R) (k : Nat) : colS R (bump f i j d) k = colS R f k + if k = j then d else 0 := by
  unfold colS bump
  rw [sg_add]
  congr 1
  by_cases hk : k = j
  · subst hk
    rw [if_pos rfl]
    refine Eq.trans (sg_congr R fun i' _ => ?_) ((sg_one d i R).trans (if_pos hi))
    by_cases h : i' = i
    · rw [if_pos ⟨h, rfl⟩, if_pos h]
    · rw [if_neg (fun h2 => h h2.1), if_neg h]
  · rw [if_neg hk]
    refine Eq.trans (sg_congr R fun i' _ => ?_) (sg_zero R)
    exact if_neg (fun h => hk h.2)
theorem cst_bump (c f : Nat → Nat → Int) (hi : i < R) (hj : j < C) : cst R C c (bump f i j d) = cst R C c f + c i j * d := by
  unfold cst bump
  have e : c i j * d = sg R (fun i' => if i' = i then c i j * d else 0) := ((sg_one (c i j * d) i R).trans (if_pos hi)).symm
  rw [e, ← sg_add]
  refine sg_congr R fun i' _ => ?_
  by_cases h : i' = i
  · subst h
    have e2 : c i' j * d = sg C (fun j' => if j' = j then c i' j * d else 0) := ((sg_one (c i' j * d) j C).trans (if_pos hj)).symm
    rw [if_pos rfl, e2, ← sg_add]
    refine sg_congr C fun j' _ => ?_
    by_cases h2 : j' = j
    · subst h2
      rw [if_pos ⟨rfl, rfl⟩, if_pos rfl, Int.mul_add]
    · rw [if_neg (fun h3 => h2 h3.2), if_neg h2, Int.add_zero, Int.add_zero]
  · rw [if_neg h, Int.add_zero]
    exact sg_congr C fun j' _ => by rw [if_neg (fun h3 => h h3.1), Int.add_zero]
end

/-- What following a chain from a column makes of a table. -/
structure Fol (R C : Nat) (c : Nat → Nat → Int) (r s : Nat → Int) (x : Dst) (δ : Int) (j : Nat) (q q' : List (List Int)) : Prop where
  sz : Sz R C q'
  root : ∃ i0, i0 < R ∧ (toSt R C x).fr i0 = -1 ∧ x.ra.getD i0 0 < far ∧ (∀ i, i < R → rowS C (gt q') i = rowS C (gt q) i + if i = i0 then 1 else 0) ∧ cst R C c (gt q') = cst R C c (gt q) + (x.ca.getD j 0 - x.ra.getD i0 0)
  col : ∀ j', j' < C → colS R (gt q') j' = colS R (gt q) j' + if j' = j then 1 else 0
  nn : ∀ i j, i < R → j < C → 0 ≤ gt q' i j
  link : ∀ i j', i < R → j' < C → 0 < gt q' i j' → 0 < gt q i j' ∨ (x.ca.getD j' 0 = x.ra.getD i 0 + c i j' ∧ x.ra.getD i 0 - r i ≤ δ ∧ x.ca.getD j' 0 - s j' ≤ δ)

theorem follow_neg (rf cf : List Int) {j : Int} (hj : j < 0) (p : List (List Int)) : ∀ n, follow rf cf n j p = some p
  | 0 => if_pos hj
  | n + 1 => if_pos hj

section
variable {R C : Nat} {a : Nat → Int} {c p : Nat → Nat → Int} {r s : Nat → Int} {x : Dst} {δ : Int}
theorem follow_ok (hd : DistOK R C a c p r s x) (hcf : ∀ j, j < C → 0 ≤ x.cf.getD j 0) (hold : ∀ i j, i < R → j < C → s j ≤ r i + c i j) (tight : ∀ i j, i < R → j < C → 0 < p i j → s j = r i + c i j) :
    ∀ (n k j : Nat) (q : List (List Int)), BF.Chain far (toSt R C x) k (R + j) → j < C → k ≤ n → Sz R C q → (∀ i j, i < R → j < C → 0 ≤ gt q i j) →
      (∀ k' i (j' : Nat), k' < k → i < R → BF.Chain far (toSt R C x) k' i → x.rf.getD i 0 = (j' : Int) → 0 < gt q i j') → x.ca.getD j 0 - s j ≤ δ →
      ∃ q', follow x.rf x.cf n (j : Int) q = some q' ∧ Fol R C c r s x δ j q q'
  | n, k, j, q, hch, hj, hkn, hsz, hnn, hpos, hδ => by
    have hch' := hch
    cases hch with
    | zero h1 h2 =>
      rw [toSt_cf hj] at h2
      have := hcf j hj
      omega
    | succ h1 h2 h3 =>
      rename_i k1 u
      obtain ⟨e, he, e1, e2, e3, e4⟩ := hd.way.tight (R + j) u h1 h2
      obtain ⟨i, j0, hi, hj0, h | ⟨h0, h⟩⟩ := mem_edges.1 he
      case inr => subst h; dsimp only at e2; omega
      subst h
      dsimp only at e1 e2 e4
      obtain rfl : j0 = j := by omega
      subst e1
      rw [toSt_row hi] at e3 e4
      rw [toSt_col hj] at e4
      rw [toSt_cf hj] at h2
      have hE : x.ca.getD j0 0 = x.ra.getD i 0 + c i j0 := by
        have := hd.rest i j0 hi hj e3; omega
      have hDδ : x.ra.getD i 0 - r i ≤ δ := by have := hold i j0 hi hj; omega
      have hnxt : chainNext x.rf x.cf (j0 : Int) = x.rf.getD i 0 := by
        unfold chainNext
        rw [Int.toNat_natCast, h2, Int.toNat_natCast]
      obtain ⟨n, rfl⟩ : ∃ m, n = m + 1 := ⟨n - 1, by omega⟩
      have hfol : follow x.rf x.cf (n + 1) (j0 : Int) q = follow x.rf x.cf n (x.rf.getD i 0) (chainStep x.rf x.cf (j0 : Int) q) := by
        rw [← hnxt]
        exact if_neg (by omega)
      rw [hfol]
      have h3' := h3
      cases h3 with
      | zero h4 h5 =>
        have hneg : x.rf.getD i 0 < 0 := by
          rw [toSt_rf hi] at h5
          by_cases hz : x.rf.getD i 0 < 0
          · exact hz
          · rw [if_neg hz] at h5; omega
        have hstep : chainStep x.rf x.cf (j0 : Int) q = addAt q i j0 1 := by
          unfold chainStep
          dsimp only
          rw [Int.toNat_natCast, h2, Int.toNat_natCast, if_neg (by omega)]
        rw [hstep, follow_neg _ _ hneg]
        have hg := gt_addAt (d := 1) hsz hi hj
        refine ⟨_, rfl, hsz.add hi, ⟨i, hi, h5, e3, fun i' hi' => ?_, ?_⟩, fun j' hj' => ?_, fun i' j' hi' hj' => ?_, fun i' j' hi' hj' h0 => ?_⟩
        · rw [hg, rowS_bump _ hj]
        · rw [hg, cst_bump _ _ hi hj]; omega
        · rw [hg, colS_bump _ hi]
        · rw [hg]
          have := hnn i' j' hi' hj'
          unfold bump
          split <;> omega
        · rw [hg] at h0
          unfold bump at h0
          by_cases hij : i' = i ∧ j' = j0
          · obtain ⟨rfl, rfl⟩ := hij
            exact .inr ⟨hE, hDδ, hδ⟩
          · rw [if_neg hij] at h0
            exact .inl (by omega)
      | succ h4 h5 h6 =>
        rename_i k2 u2
        have hnn2 : ¬ x.rf.getD i 0 < 0 := fun hz => by
          rw [toSt_rf hi, if_pos hz] at h5; omega
        obtain ⟨e', he', f1, f2, f3, f4⟩ := hd.way.tight i u2 h4 h5
        obtain ⟨i', j2, hi', hj2, h | ⟨h0, h⟩⟩ := mem_edges.1 he'
        case inl => subst h; dsimp only at f2; omega
        subst h
        dsimp only at f1 f2 f4
        subst f2
        subst f1
        rw [toSt_rf hi, if_neg hnn2] at h5
        rw [toSt_col hj2] at f3 f4
        rw [toSt_row hi] at f4
        have hrf : x.rf.getD i' 0 = (j2 : Int) := by omega
        have hD : x.ra.getD i' 0 = x.ca.getD j2 0 - c i' j2 := by
          have := hd.back i' j2 hi hj2 h0 f3; omega
        have hδ2 : x.ca.getD j2 0 - s j2 ≤ δ := by have := tight i' j2 hi hj2 h0; omega
        have hstep : chainStep x.rf x.cf (j0 : Int) q = addAt (addAt q i' j0 1) i' j2 (-1) := by
          unfold chainStep
          dsimp only
          rw [Int.toNat_natCast, h2, Int.toNat_natCast, hrf, if_pos (by omega), Int.toNat_natCast]
        have hs1 := hsz.add (j := j0) (d := 1) hi
        have hs2 := hs1.add (j := j2) (d := -1) hi
        have hg : gt (addAt (addAt q i' j0 1) i' j2 (-1)) = bump (bump (gt q) i' j0 1) i' j2 (-1) := by
          rw [gt_addAt hs1 hi hj2, gt_addAt hsz hi hj]
        have hq0 := hpos (k2 + 1) i' j2 (by omega) hi h3' hrf
        rw [hstep, hrf]
        obtain ⟨q', hq', hF⟩ := follow_ok hd hcf hold tight n k2 j2 (addAt (addAt q i' j0 1) i' j2 (-1)) h6 hj2 (by omega) hs2 (fun i3 j3 hi3 hj3 => by
            rw [hg]
            have := hnn i3 j3 hi3 hj3
            unfold bump
            by_cases hij : i3 = i' ∧ j3 = j2
            · obtain ⟨k1, k2⟩ := hij
              subst k1
              subst k2
              split <;> split <;> omega
            · rw [if_neg hij]
              split <;> omega) (fun k3 i3 j3 hk3 hi3 hc3 hr3 => by
            have hne : i3 ≠ i' := fun e => by
              subst e
              have := BF.Chain.len hc3 _ h3'
              omega
            have := hpos k3 i3 j3 (by omega) hi3 hc3 hr3
            rw [hg]
            unfold bump
            rw [if_neg (fun h => hne h.1), if_neg (fun h => hne h.1)]
            omega) hδ2
        refine ⟨q', hq', hF.sz, ?_, fun j' hj' => ?_, hF.nn, fun i3 j3 hi3 hj3 h0' => ?_⟩
        · obtain ⟨i0, g1, g2, g3, g4, g5⟩ := hF.root
          refine ⟨i0, g1, g2, g3, fun i3 hi3 => ?_, ?_⟩
          · rw [g4 i3 hi3, hg, rowS_bump _ hj2, rowS_bump _ hj]
            by_cases h : i3 = i'
            · rw [if_pos h, if_pos h]; omega
            · rw [if_neg h, if_neg h]; omega
          · rw [g5, hg, cst_bump _ _ hi hj2, cst_bump _ _ hi hj]; omega
        · rw [hF.col j' hj', hg, colS_bump _ hi, colS_bump _ hi]
          by_cases h : j' = j2
          · rw [if_pos h, if_pos h]; omega
          · rw [if_neg h, if_neg h]; omega
        · rcases hF.link i3 j3 hi3 hj3 h0' with h | h
          · rw [hg] at h
            unfold bump at h
            by_cases hij : i3 = i' ∧ j3 = j0
            · obtain ⟨k1, k2⟩ := hij
              subst k1
              subst k2
              exact .inr ⟨hE, hDδ, hδ⟩
            · rw [if_neg hij] at h
              split at h
              · exact .inl (by omega)
              · exact .inl (by omega)
          · exact .inr h
end

theorem bestCol_spec (cols ca : List Int) : ∀ n, (bestCol cols ca n = -1 ∧ ∀ j, j < n → 0 < cols.getD j 0 → ca.getD j 0 < far → False) ∨
    ∃ m : Nat, m < n ∧ bestCol cols ca n = (m : Int) ∧ 0 < cols.getD m 0 ∧ ca.getD m 0 < far ∧ ∀ j, j < n → 0 < cols.getD j 0 → ca.getD j 0 < far → ca.getD m 0 ≤ ca.getD j 0
  | 0 => .inl ⟨rfl, fun j hj => by omega⟩
  | n + 1 => by
    have e : bestCol cols ca (n + 1) = if 0 < cols.getD n 0 ∧ ca.getD n 0 < far ∧ (bestCol cols ca n < 0 ∨ ca.getD n 0 < ca.getD (bestCol cols ca n).toNat 0) then (n : Int) else bestCol cols ca n := rfl
    rcases bestCol_spec cols ca n with ⟨h1, h2⟩ | ⟨m, h1, h2, h3, h4, h5⟩
    · rw [e, h1]
      by_cases hc : 0 < cols.getD n 0 ∧ ca.getD n 0 < far
      · rw [if_pos ⟨hc.1, hc.2, .inl (by omega)⟩]
        refine .inr ⟨n, by omega, rfl, hc.1, hc.2, fun j hj k1 k2 => ?_⟩
        rcases Nat.lt_or_ge j n with h | h
        · exact (h2 j h k1 k2).elim
        · obtain rfl : j = n := by omega
          exact Int.le_refl _
      · rw [if_neg (fun h => hc ⟨h.1, h.2.1⟩)]
        refine .inl ⟨rfl, fun j hj k1 k2 => ?_⟩
        rcases Nat.lt_or_ge j n with h | h
        · exact h2 j h k1 k2
        · obtain rfl : j = n := by omega
          exact hc ⟨k1, k2⟩
    · rw [e, h2, Int.toNat_natCast]
      by_cases hc : 0 < cols.getD n 0 ∧ ca.getD n 0 < far ∧ ca.getD n 0 < ca.getD m 0
      · rw [if_pos ⟨hc.1, hc.2.1, .inr hc.2.2⟩]
        refine .inr ⟨n, by omega, rfl, hc.1, hc.2.1, fun j hj k1 k2 => ?_⟩
        rcases Nat.lt_or_ge j n with h | h
        · have := h5 j h k1 k2; omega
        · obtain rfl : j = n := by omega
          exact Int.le_refl _
      · rw [if_neg (fun h => hc ⟨h.1, h.2.1, by rcases h.2.2 with h | h <;> omega⟩)]
        refine .inr ⟨m, by omega, rfl, h3, h4, fun j hj k1 k2 => ?_⟩
        rcases Nat.lt_or_ge j n with h | h
        · exact h5 j h k1 k2
        · obtain rfl : j = n := by omega
          by_cases h : ca.getD j 0 < ca.getD m 0
          · exact (hc ⟨k1, k2, h⟩).elim
          · omega

/-- A plan on the way: a part of the masses is moved, as cheaply as so much can be. -/
structure Way2 (a b : List Int) (c p : List (List Int)) (V : Int) : Prop where
  shp : Shp a b p
  part : IsPart a.length b.length (ga a) (ga b) (gt p)
  good : ∃ r s : Nat → Int, Good a.length b.length (ga a) (ga b) (gt c) (gt p) r s V ∧ (∀ i, i < a.length → r i ≤ 99) ∧ ∀ j, j < b.length → 0 ≤ s j ∧ s j ≤ 99

section
variable {a b : List Int} {c p : List (List Int)} {V : Int}
theorem IsPart.at_le {R C : Nat} {a b : Nat → Int} {p : Nat → Nat → Int} (h : IsPart R C a b p) {i j : Nat} (hi : i < R) (hj : j < C) : p i j ≤ b j :=
  Int.le_trans (sg_at R (f := fun i => p i j) (fun i hi => h.nn i j hi hj) i hi) (h.col j hj)

theorem next_end (hc : Tb a.length b.length 0 99 c) (h : Way2 a b c p V) (hb : bestV a b c p < 0) : nextP a b c p = some p ∧ nextN a b c p = 0 ∧
    ((∀ i, i < a.length → rowS b.length (gt p) i = ga a i) ∨ (∀ j, j < b.length → colS a.length (gt p) j = ga b j)) := by
  refine ⟨if_pos hb, if_pos hb, ?_⟩
  obtain ⟨r, s, hg, hr, hs⟩ := h.good
  have hd := dist_ok hc h.shp h.part hg hr fun j hj => (hs j hj).2
  have hfar : far = 1099511627776 := rfl
  rcases bestCol_spec (leftV a b p).2 (dist a b c p).ca b.length with ⟨h1, h2⟩ | ⟨m, h1, h2, h3, h4, h5⟩
  · apply Classical.byContradiction
    intro hn
    have h6 : ∃ i, i < a.length ∧ rowS b.length (gt p) i < ga a i := Classical.byContradiction fun hx => hn (.inl fun i hi => by
      have := h.part.row i hi
      have : ¬ rowS b.length (gt p) i < ga a i := fun h => hx ⟨i, hi, h⟩
      omega)
    have h7 : ∃ j, j < b.length ∧ colS a.length (gt p) j < ga b j := Classical.byContradiction fun hx => hn (.inr fun j hj => by
      have := h.part.col j hj
      have : ¬ colS a.length (gt p) j < ga b j := fun h => hx ⟨j, hj, h⟩
      omega)
    obtain ⟨i, hi, h6⟩ := h6
    obtain ⟨j, hj, h7⟩ := h7
    have h8 := hd.left i hi h6
    have h9 := hd.rest i j hi hj (by omega)
    have h10 : gt c i j ≤ 99 := (hc.at' i j hi hj).2
    exact h2 j hj (by rw [leftV_col h.shp hj]; omega) (by omega)
  · have : bestV a b c p = (m : Int) := h2
    omega

theorem next_more (hc : Tb a.length b.length 0 99 c) (h : Way2 a b c p V) (hb : ¬ bestV a b c p < 0) : ∃ p', nextP a b c p = some p' ∧ Way2 a b c p' (nextN a b c p) ∧ V ≤ nextN a b c p ∧ 0 ≤ nextN a b c p ∧ nextN a b c p ≤ 99 ∧
    units a.length b.length (gt p') = units a.length b.length (gt p) + 1 ∧ cst a.length b.length (gt c) (gt p') = cst a.length b.length (gt c) (gt p) + nextN a b c p := by
  obtain ⟨r, s, hg, hr, hs⟩ := h.good
  have hd := dist_ok hc h.shp h.part hg hr fun j hj => (hs j hj).2
  have hst : DSt a.length b.length _ (dist a b c p) := distK_st hc h.shp (a.length + b.length)
  have hfar : far = 1099511627776 := rfl
  rcases bestCol_spec (leftV a b p).2 (dist a b c p).ca b.length with ⟨h1, h2⟩ | ⟨m, hm, h2, h3, h4, h5⟩
  · have : bestV a b c p = -1 := h1
    omega
  · have hbm : bestV a b c p = (m : Int) := h2
    have hN : nextN a b c p = (dist a b c p).ca.getD m 0 := by
      unfold nextN
      rw [if_neg hb, hbm, Int.toNat_natCast]
    have hP : nextP a b c p = follow (dist a b c p).rf (dist a b c p).cf (a.length + b.length) (m : Int) p := by
      unfold nextP
      rw [if_neg hb, hbm]
    rw [hP, hN]
    generalize dist a b c p = x at hd hst h4 h5 ⊢
    have hVm : V = s m := (hg.sleft m hm (by rw [leftV_col h.shp hm] at h3; omega)).symm
    obtain ⟨k, hk⟩ := hd.way.chain (a.length + m) (by rw [toSt_col hm]; exact h4)
    have hkN := Chain.short (N := a.length + b.length) (fun v hv => by
      rcases Nat.lt_or_ge v (a.length + b.length) with h | h
      · exact h
      · rw [toSt_out h] at hv; omega) hk
    obtain ⟨q', hq', hF⟩ := follow_ok (δ := x.ca.getD m 0 - V) hd (fun j hj => by
      have := (hst.b4.at (i := j) (by rw [hst.l4]; exact hj)).1
      exact this) hg.hold hg.tight (a.length + b.length) k m p hk hm (by omega) h.shp.tab.sz (fun i j hi hj => h.part.nn i j hi hj) (fun k' i j' hk' hi hc' hr' => by
        cases hc' with
        | zero g1 g2 =>
          rw [toSt_rf hi, if_neg (by omega)] at g2; omega
        | succ g1 g2 g3 =>
          obtain ⟨e, he, e1, e2, e3, e4⟩ := hd.way.tight i _ g1 g2
          obtain ⟨i', j2, hi', hj2, h | ⟨h0, h⟩⟩ := mem_edges.1 he
          · subst h; dsimp only at e2; omega
          · subst h
            dsimp only at e1 e2
            subst e2
            rw [toSt_rf hi, if_neg (by omega)] at g2
            obtain rfl : j2 = j' := by omega
            exact h0) (by omega)
    obtain ⟨i0, g1, g2, g3, g4, g5⟩ := hF.root
    obtain ⟨g6, g7⟩ := hd.root i0 g1 g3 g2
    -- some row is left, so all columns are reached
    have hcol : ∀ j, j < b.length → x.ca.getD j 0 ≤ 99 := fun j hj => by
      have h1 := hd.rest i0 j g1 hj (by omega)
      have : gt c i0 j ≤ 99 := (hc.at' i0 j g1 hj).2
      omega
    have hV : V ≤ x.ca.getD m 0 := by have := hd.slow m hm; omega
    have hm0 : 0 ≤ x.ca.getD m 0 := by have := hd.slow m hm; have := (hs m hm).1; omega
    have hleft := leftV_col h.shp hm
    have hpart : IsPart a.length b.length (ga a) (ga b) (gt q') := ⟨hF.nn, fun i hi => by
        rw [g4 i hi]
        have := h.part.row i hi
        by_cases h : i = i0
        · subst h; rw [if_pos rfl]; omega
        · rw [if_neg h]; omega, fun j hj => by
        rw [hF.col j hj]
        have := h.part.col j hj
        by_cases h : j = m
        · subst h
          rw [hleft] at h3
          rw [if_pos rfl]; omega
        · rw [if_neg h]; omega⟩
    refine ⟨q', hq', ⟨⟨h.shp.a5, h.shp.b5, h.shp.ha, h.shp.hb, hF.sz.rows, hF.sz.cols, fun i j hi hj => ⟨hF.nn i j hi hj, Int.le_trans (hpart.at_le hi hj) (h.shp.hb.at hj).2⟩⟩, hpart, ?_⟩, hV, hm0, hcol m hm, ?_, ?_⟩
    · -- the new costs
      let D := x.ca.getD m 0 - V
      have hD : D = x.ca.getD m 0 - V := rfl
      have hDn : 0 ≤ D := by omega
      let s' : Nat → Int := fun j => min (x.ca.getD j 0) (s j + D)
      let r' : Nat → Int := fun i => if x.ra.getD i 0 < far then min (x.ra.getD i 0) (r i + D) else 99
      have hs' : ∀ j, s' j = min (x.ca.getD j 0) (s j + D) := fun _ => rfl
      have hr1 : ∀ i, x.ra.getD i 0 < far → r' i = min (x.ra.getD i 0) (r i + D) := fun i h => if_pos h
      have hr2 : ∀ i, ¬ x.ra.getD i 0 < far → r' i = 99 := fun i h => if_neg h
      have hlink : ∀ i j, i < a.length → j < b.length → 0 < gt p i j → x.ra.getD i 0 < far ∧ x.ca.getD j 0 = x.ra.getD i 0 + gt c i j := fun i j hi hj h0 => by
        have k1 := hcol j hj
        have k2 := hd.back i j hi hj h0 (by omega)
        have k3 : 0 ≤ gt c i j := (hc.at' i j hi hj).1
        have k4 := hd.rest i j hi hj (by omega)
        exact ⟨by omega, by omega⟩
      refine ⟨r', s', ⟨fun i j hi hj => ?_, fun i j hi hj h0 => ?_, fun i hi => ?_, fun i hi hl => ?_, fun j hj => ?_, fun j hj hl => ?_⟩, fun i hi => ?_, fun j hj => ?_⟩
      · have k1 := hcol j hj
        have k3 : 0 ≤ gt c i j := (hc.at' i j hi hj).1
        by_cases hx : x.ra.getD i 0 < far
        · have k4 := hd.rest i j hi hj hx
          have k5 := hg.hold i j hi hj
          rw [hs', hr1 i hx]; omega
        · rw [hs', hr2 i hx]; omega
      · rcases hF.link i j hi hj h0 with hl | ⟨l1, l2, l3⟩
        · obtain ⟨k1, k2⟩ := hlink i j hi hj hl
          have k3 := hg.tight i j hi hj hl
          rw [hs', hr1 i k1]; omega
        · have k1 := hcol j hj
          have k3 : 0 ≤ gt c i j := (hc.at' i j hi hj).1
          rw [hs', hr1 i (by omega)]; omega
      · have k1 := hd.rlow i hi
        have k2 := hg.rnn i hi
        by_cases hx : x.ra.getD i 0 < far
        · rw [hr1 i hx]; omega
        · rw [hr2 i hx]; omega
      · have hl2 : rowS b.length (gt p) i < ga a i := by
          rw [g4 i hi] at hl
          split at hl <;> omega
        have k1 := hd.left i hi hl2
        have k2 := hg.rnn i hi
        rw [hr1 i (by omega)]; omega
      · rw [hs']
        have := hg.sle j hj
        omega
      · have hl2 : colS a.length (gt p) j < ga b j := by
          rw [hF.col j hj] at hl
          split at hl <;> omega
        have k1 := hg.sleft j hj hl2
        have k2 := h5 j hj (by rw [leftV_col h.shp hj]; omega) (by have := hcol j hj; omega)
        rw [hs']; omega
      · by_cases hx : x.ra.getD i 0 < far
        · rw [hr1 i hx]
          have : r i + D ≤ 99 ∨ x.ra.getD i 0 ≤ 99 := by
            by_cases hrow : ∃ j, j < b.length ∧ 0 < gt p i j
            · obtain ⟨j, hj, h0⟩ := hrow
              have k2 := (hlink i j hi hj h0).2
              have k3 : 0 ≤ gt c i j := (hc.at' i j hi hj).1
              have := hcol j hj
              right; omega
            · right
              -- without links a row is reached as one that is left
              obtain ⟨k', hk'⟩ := hd.way.chain i (by rw [toSt_row hi]; exact hx)
              cases hk' with
              | zero w1 w2 =>
                have := (hd.root i hi hx w2).2
                omega
              | succ w1 w2 w3 =>
                obtain ⟨e, he, e1, e2, e3, e4⟩ := hd.way.tight i _ w1 w2
                obtain ⟨i', j2, hi', hj2, h | ⟨h0, h⟩⟩ := mem_edges.1 he
                · subst h; dsimp only at e2; omega
                · subst h
                  dsimp only at e2
                  subst e2
                  exact (hrow ⟨j2, hj2, h0⟩).elim
          omega
        · rw [hr2 i hx]; omega
      · have k1 := hd.slow j hj
        have k2 := (hs j hj).1
        have k3 := hcol j hj
        rw [hs']; omega
    · unfold units
      rw [sg_congr a.length (fun i hi => g4 i hi), sg_add, sg_one, if_pos g1]
    · rw [g5, g7]; omega
end
end Go.OT
