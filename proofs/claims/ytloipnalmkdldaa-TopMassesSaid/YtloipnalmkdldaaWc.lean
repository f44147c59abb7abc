/- The plan along the corner is the overlaps of stretches; its links are a forest. No program; no condition. -/
import Derived.Test.YtloipnalmkdldaaWa
namespace Go.OT
set_option linter.unusedSimpArgs false
set_option linter.unusedVariables false

/-- The walk along the corner, from a place on. -/
def walkC : Nat → List Int → List Int → List (List Int) → Nat → Nat → List (List Int)
  | 0, _, _, out, _, _ => out
  | f + 1, a, b, out, i, j => if i < a.length ∧ j < b.length then
      (let n := min (a.getD i 0) (b.getD j 0)
       let o := out.set i ((out.getD i []).set j n)
       if b.getD j 0 - n = 0 then walkC f (a.set i (a.getD i 0 - n)) (b.set j (b.getD j 0 - n)) o i (j + 1)
       else walkC f (a.set i (a.getD i 0 - n)) (b.set j (b.getD j 0 - n)) o (i + 1) j)
      else out
/-- What is below, and how much two stretches have in common. -/
def bel (a : List Int) (i : Nat) : Int := sg i (ga a)
def ovl (a b : List Int) (i j : Nat) : Int := max 0 (min (bel a (i + 1)) (bel b (j + 1)) - max (bel a i) (bel b j))
theorem bel_succ (a : List Int) (i : Nat) : bel a (i + 1) = bel a i + ga a i := rfl
theorem bel_mono {a : List Int} (h : ∀ i, 0 ≤ ga a i) {i : Nat} : ∀ {k}, i ≤ k → bel a i ≤ bel a k
  | 0, hk => by rw [show i = 0 by omega]; exact Int.le_refl _
  | k + 1, hk => by
    rcases Nat.lt_or_ge i (k + 1) with h1 | h1
    · have := bel_mono h (i := i) (k := k) (by omega)
      have := h k
      rw [bel_succ]; omega
    · rw [show i = k + 1 by omega]; exact Int.le_refl _
theorem ga_nn {a : List Int} (h : ∀ x ∈ a, 0 ≤ x) (i : Nat) : 0 ≤ ga a i := by
  unfold ga
  rw [List.getD_eq_getElem?_getD]
  rcases Nat.lt_or_ge i a.length with h1 | h1
  · rw [List.getElem?_eq_getElem h1]; exact h _ (List.getElem_mem h1)
  · rw [List.getElem?_eq_none h1]; exact Int.le_refl _

/-- What holds on the way. -/
structure CornI (a b a' b' : List Int) (o : List (List Int)) (i j : Nat) : Prop where
  la : a'.length = a.length
  lb : b'.length = b.length
  lo : Sz a.length b.length o
  hi : i ≤ a.length
  hj : j ≤ b.length
  ra : ∀ k, i < k → ga a' k = ga a k
  rb : ∀ k, j < k → ga b' k = ga b k
  ca : i < a.length → j < b.length → ga a' i = bel a (i + 1) - max (bel a i) (bel b j)
  cb : i < a.length → j < b.length → ga b' j = bel b (j + 1) - max (bel a i) (bel b j)
  le : i < a.length → j < b.length → max (bel a i) (bel b j) ≤ bel a (i + 1) ∧ max (bel a i) (bel b j) ≤ bel b (j + 1)
  don : ∀ x y, x < a.length → y < b.length → x < i ∨ y < j → gt o x y = ovl a b x y
  und : ∀ x y, x < a.length → y < b.length → i ≤ x → j ≤ y → gt o x y = 0
theorem gt_set2 {R C : Nat} {o : List (List Int)} (h : Sz R C o) {i j : Nat} (hi : i < R) (hj : j < C) (n : Int) : Sz R C (o.set i ((o.getD i []).set j n)) ∧ ∀ x y, gt (o.set i ((o.getD i []).set j n)) x y = if x = i ∧ y = j then n else gt o x y := by
  have hr := h.rows
  have hrow : ∀ x, (o.set i ((o.getD i []).set j n)).getD x [] = if x = i then (o.getD i []).set j n else o.getD x [] := fun x => by
    simp only [List.getD_eq_getElem?_getD, List.getElem?_set]
    by_cases hx : x = i
    · subst hx; rw [if_pos rfl, if_pos (by omega), if_pos rfl]; rfl
    · rw [if_neg (fun e => hx e.symm), if_neg hx]
  refine ⟨⟨by rw [List.length_set]; exact hr, fun x hx => ?_⟩, fun x y => ?_⟩
  · rw [hrow]
    split
    · rw [List.length_set]; exact h.cols i hi
    · exact h.cols x hx
  · unfold gt
    rw [hrow]
    by_cases hx : x = i
    · subst hx
      rw [if_pos rfl]
      simp only [List.getD_eq_getElem?_getD, List.getElem?_set]
      have hc := h.cols x hi
      rw [List.getD_eq_getElem?_getD] at hc
      by_cases hy : y = j
      · subst hy; rw [if_pos rfl, if_pos (by omega), if_pos ⟨trivial, rfl⟩]; rfl
      · rw [if_neg (fun e => hy e.symm), if_neg (fun e => hy e.2)]
    · rw [if_neg hx, if_neg (fun e => hx e.1)]
theorem ga_set2 {l : List Int} {i : Nat} (hi : i < l.length) (x : Int) (k : Nat) : ga (l.set i x) k = if k = i then x else ga l k := by
  unfold ga
  simp only [List.getD_eq_getElem?_getD, List.getElem?_set]
  by_cases h : k = i
  · subst h; rw [if_pos rfl, if_pos hi, if_pos rfl]; rfl
  · rw [if_neg (fun e => h e.symm), if_neg h]
theorem CornI.step {a b a' b' : List Int} {o : List (List Int)} {i j : Nat} (ha : ∀ x ∈ a, 0 ≤ x) (hb : ∀ x ∈ b, 0 ≤ x) (h : CornI a b a' b' o i j) (hi : i < a.length) (hj : j < b.length) {n : Int} (hn : n = min (a'.getD i 0) (b'.getD j 0)) :
    (b'.getD j 0 - n = 0 → CornI a b (a'.set i (a'.getD i 0 - n)) (b'.set j (b'.getD j 0 - n)) (o.set i ((o.getD i []).set j n)) i (j + 1)) ∧
    (¬ b'.getD j 0 - n = 0 → CornI a b (a'.set i (a'.getD i 0 - n)) (b'.set j (b'.getD j 0 - n)) (o.set i ((o.getD i []).set j n)) (i + 1) j) := by
  have hna := ga_nn ha
  have hnb := ga_nn hb
  have e1 : a'.getD i 0 = ga a' i := rfl
  have e2 : b'.getD j 0 = ga b' j := rfl
  have c1 := h.ca hi hj
  have c2 := h.cb hi hj
  obtain ⟨l1, l2⟩ := h.le hi hj
  rw [e1, e2] at hn
  rw [e1, e2]
  have A1 := bel_succ a i
  have B1 := bel_succ b j
  have An := hna i
  have Bn := hnb j
  obtain ⟨sz, val⟩ := gt_set2 h.lo hi hj n
  have hov : n = ovl a b i j := by unfold ovl; omega
  have sa := ga_set2 (l := a') (i := i) (by rw [h.la]; exact hi) (ga a' i - n)
  have sb := ga_set2 (l := b') (i := j) (by rw [h.lb]; exact hj) (ga b' j - n)
  refine ⟨fun h0 => ?_, fun h0 => ?_⟩
  · have hM : max (bel a i) (bel b (j + 1)) = bel b (j + 1) := by omega
    refine ⟨by rw [List.length_set]; exact h.la, by rw [List.length_set]; exact h.lb, sz, h.hi, hj, fun k hk => ?_, fun k hk => ?_, fun _ hj2 => ?_, fun _ hj2 => ?_, fun _ hj2 => ?_, fun x y hx hy hd => ?_, fun x y hx hy h1 h2 => ?_⟩
    · rw [sa, if_neg (by omega)]; exact h.ra k hk
    · rw [sb, if_neg (by omega)]; exact h.rb k (by omega)
    · rw [sa, if_pos rfl, hM]; omega
    · rw [sb, if_neg (by omega), h.rb (j + 1) (by omega), hM, bel_succ b (j + 1)]; omega
    · have := hnb (j + 1)
      rw [hM, bel_succ b (j + 1)]; omega
    · rw [val]
      by_cases hxy : x = i ∧ y = j
      · rw [if_pos hxy, hxy.1, hxy.2]; exact hov
      · rw [if_neg hxy]
        by_cases hd2 : x < i ∨ y < j
        · exact h.don x y hx hy hd2
        · have hyj : y = j := by omega
          subst hyj
          have hxi : i < x := by omega
          rw [h.und x y hx hy (by omega) (by omega)]
          have := bel_mono hna (i := i + 1) (k := x) (by omega)
          unfold ovl
          omega
    · rw [val, if_neg (by omega)]
      exact h.und x y hx hy h1 (by omega)
  · have hM : max (bel a (i + 1)) (bel b j) = bel a (i + 1) := by omega
    refine ⟨by rw [List.length_set]; exact h.la, by rw [List.length_set]; exact h.lb, sz, hi, h.hj, fun k hk => ?_, fun k hk => ?_, fun hi2 _ => ?_, fun hi2 _ => ?_, fun hi2 _ => ?_, fun x y hx hy hd => ?_, fun x y hx hy h1 h2 => ?_⟩
    · rw [sa, if_neg (by omega)]; exact h.ra k (by omega)
    · rw [sb, if_neg (by omega)]; exact h.rb k hk
    · rw [sa, if_neg (by omega), h.ra (i + 1) (by omega), hM, bel_succ a (i + 1)]; omega
    · rw [sb, if_pos rfl, hM]; omega
    · have := hna (i + 1)
      rw [hM, bel_succ a (i + 1)]; omega
    · rw [val]
      by_cases hxy : x = i ∧ y = j
      · rw [if_pos hxy, hxy.1, hxy.2]; exact hov
      · rw [if_neg hxy]
        by_cases hd2 : x < i ∨ y < j
        · exact h.don x y hx hy hd2
        · have hxi : x = i := by omega
          subst hxi
          have hyj : j < y := by omega
          rw [h.und x y hx hy (by omega) (by omega)]
          have := bel_mono hnb (i := j + 1) (k := y) (by omega)
          unfold ovl
          omega
    · rw [val, if_neg (by omega)]
      exact h.und x y hx hy (by omega) h2
theorem CornI.run {a b : List Int} (ha : ∀ x ∈ a, 0 ≤ x) (hb : ∀ x ∈ b, 0 ≤ x) : ∀ (f : Nat) (a' b' : List Int) (o : List (List Int)) (i j : Nat), CornI a b a' b' o i j → (a.length - i) + (b.length - j) ≤ f →
    Sz a.length b.length (walkC f a' b' o i j) ∧ ∀ x y, x < a.length → y < b.length → gt (walkC f a' b' o i j) x y = ovl a b x y
  | 0, a', b', o, i, j, h, hf => ⟨h.lo, fun x y hx hy => h.don x y hx hy (by have := h.hi; have := h.hj; omega)⟩
  | f + 1, a', b', o, i, j, h, hf => by
    have la := h.la
    have lb := h.lb
    unfold walkC
    by_cases hc : i < a'.length ∧ j < b'.length
    · rw [if_pos hc]
      obtain ⟨s1, s2⟩ := h.step ha hb (by omega) (by omega) rfl
      dsimp only
      by_cases h0 : b'.getD j 0 - min (a'.getD i 0) (b'.getD j 0) = 0
      · rw [if_pos h0]
        exact CornI.run ha hb f _ _ _ _ _ (s1 h0) (by omega)
      · rw [if_neg h0]
        exact CornI.run ha hb f _ _ _ _ _ (s2 h0) (by omega)
    · rw [if_neg hc]
      exact ⟨h.lo, fun x y hx hy => h.don x y hx hy (by have := h.hi; have := h.hj; omega)⟩
theorem corner_ovl {a b : List Int} (ha : ∀ x ∈ a, 0 ≤ x) (hb : ∀ x ∈ b, 0 ≤ x) :
    Sz a.length b.length (walkC (a.length + b.length) a b (List.replicate a.length (List.replicate b.length 0)) 0 0) ∧ ∀ x y, x < a.length → y < b.length → gt (walkC (a.length + b.length) a b (List.replicate a.length (List.replicate b.length 0)) 0 0) x y = ovl a b x y := by
  have hna := ga_nn ha
  have hnb := ga_nn hb
  have hrep : ∀ x, x < a.length → (List.replicate a.length (List.replicate b.length (0 : Int))).getD x [] = List.replicate b.length 0 := fun x hx => by
    rw [List.getD_eq_getElem?_getD, List.getElem?_replicate, if_pos hx]; rfl
  have z1 : bel a 0 = 0 := rfl
  have z2 : bel b 0 = 0 := rfl
  refine CornI.run ha hb _ _ _ _ _ _ ⟨rfl, rfl, ⟨by simp, fun x hx => by rw [hrep x hx]; simp⟩, Nat.zero_le _, Nat.zero_le _, fun k _ => rfl, fun k _ => rfl, fun _ _ => ?_, fun _ _ => ?_, fun _ _ => ?_, fun x y _ _ h => by omega, fun x y hx hy _ _ => ?_⟩ (by omega)
  · rw [bel_succ, z1, z2]; omega
  · rw [bel_succ, z1, z2]; omega
  · have := hna 0
    have := hnb 0
    rw [bel_succ, bel_succ, z1, z2]; omega
  · unfold gt
    rw [hrep x hx, List.getD_eq_getElem?_getD, List.getElem?_replicate, if_pos hy]; rfl
/-- Overlaps that are not empty lie on a way down and to the right. -/
theorem ovl_chain {a b : List Int} (ha : ∀ x ∈ a, 0 ≤ x) (hb : ∀ x ∈ b, 0 ≤ x) {i j i' j' : Nat} (h1 : 0 < ovl a b i j) (h2 : 0 < ovl a b i' j') : (i ≤ i' ∧ j ≤ j') ∨ (i' ≤ i ∧ j' ≤ j) := by
  have hna := ga_nn ha
  have hnb := ga_nn hb
  unfold ovl at h1 h2
  rcases Nat.lt_trichotomy i i' with h | h | h
  · rcases Nat.lt_or_ge j' j with k | k
    · have m1 := bel_mono hna (i := i + 1) (k := i') (by omega)
      have m2 := bel_mono hnb (i := j' + 1) (k := j) (by omega)
      omega
    · exact .inl ⟨by omega, k⟩
  · subst h
    omega
  · rcases Nat.lt_or_ge j j' with k | k
    · have m1 := bel_mono hna (i := i' + 1) (k := i) (by omega)
      have m2 := bel_mono hnb (i := j + 1) (k := j') (by omega)
      omega
    · exact .inr ⟨by omega, k⟩
end Go.OT
