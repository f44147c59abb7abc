/- A plan is improved along rounds until prices prove it. No program; no condition. -/
import Derived.Test.YtogopoiohckpdaeP2
namespace Go.LC
open Go.OT
set_option linter.unusedSimpArgs false
set_option linter.unusedVariables false

/-! ### Some plan -/
structure Cn where
  out : List (List Int)
  fr : List Int
  to : List Int
def cornStep (i j : Nat) (s : Cn) : Cn := ⟨s.out.set i ((s.out.getD i []).set j (min (s.fr.getD i 0) (s.to.getD j 0))), s.fr.set i (s.fr.getD i 0 - min (s.fr.getD i 0) (s.to.getD j 0)), s.to.set j (s.to.getD j 0 - min (s.fr.getD i 0) (s.to.getD j 0))⟩
/-- What holds on the way: the cells that are done have met an end of a row or a column. -/
structure CnI (a b : List Int) (dn : Nat → Nat → Prop) (s : Cn) : Prop where
  tab : Tb a.length b.length 0 200 s.out
  l1 : s.fr.length = a.length
  l2 : s.to.length = b.length
  nn1 : ∀ i, i < a.length → 0 ≤ s.fr.getD i 0 ∧ s.fr.getD i 0 ≤ 200
  nn2 : ∀ j, j < b.length → 0 ≤ s.to.getD j 0 ∧ s.to.getD j 0 ≤ 200
  row : ∀ i, i < a.length → rowS b.length (gt s.out) i + s.fr.getD i 0 = ga a i
  col : ∀ j, j < b.length → colS a.length (gt s.out) j + s.to.getD j 0 = ga b j
  met : ∀ i j, i < a.length → j < b.length → dn i j → s.fr.getD i 0 = 0 ∨ s.to.getD j 0 = 0
  rest : ∀ i j, i < a.length → j < b.length → ¬ dn i j → gt s.out i j = 0

theorem CnI.step {a b : List Int} {dn : Nat → Nat → Prop} {s : Cn} (h : CnI a b dn s) {i j : Nat} (hi : i < a.length) (hj : j < b.length) (hn : ¬ dn i j) : CnI a b (fun i' j' => dn i' j' ∨ i' = i ∧ j' = j) (cornStep i j s) := by
  have h0 := h.rest i j hi hj hn
  have k1 := h.nn1 i hi
  have k2 := h.nn2 j hj
  have e1 : (cornStep i j s).out = addAt s.out i j (min (s.fr.getD i 0) (s.to.getD j 0)) := by
    unfold gt at h0
    unfold cornStep addAt
    dsimp only
    rw [h0, Int.zero_add]
  have e2 : gt (cornStep i j s).out = bump (gt s.out) i j (min (s.fr.getD i 0) (s.to.getD j 0)) := by
    rw [e1, gt_addAt h.tab.sz hi hj]
  have f1 : ∀ k, (cornStep i j s).fr.getD k 0 = if k = i then s.fr.getD i 0 - min (s.fr.getD i 0) (s.to.getD j 0) else s.fr.getD k 0 := fun k => ga_set (by rw [h.l1]; exact hi) _ _
  have f2 : ∀ k, (cornStep i j s).to.getD k 0 = if k = j then s.to.getD j 0 - min (s.fr.getD i 0) (s.to.getD j 0) else s.to.getD k 0 := fun k => ga_set (by rw [h.l2]; exact hj) _ _
  have sz := (h.tab.sz.add (j := j) (d := min (s.fr.getD i 0) (s.to.getD j 0)) hi)
  rw [← e1] at sz
  refine ⟨⟨sz.rows, sz.cols, fun i' j' hi' hj' => ?_⟩, by simp [cornStep, h.l1], by simp [cornStep, h.l2], fun k hk => ?_, fun k hk => ?_, fun k hk => ?_, fun k hk => ?_, fun i' j' hi' hj' hd => ?_, fun i' j' hi' hj' hd => ?_⟩
  · have e3 := congrFun (congrFun e2 i') j'
    unfold gt at e3
    rw [e3]
    have := h.tab.at' i' j' hi' hj'
    unfold bump
    dsimp only
    by_cases hc : i' = i ∧ j' = j
    · obtain ⟨rfl, rfl⟩ := hc
      unfold gt at h0
      rw [if_pos ⟨rfl, rfl⟩, h0]; omega
    · rw [if_neg hc]; omega
  · rw [f1]; have := h.nn1 k hk; split <;> omega
  · rw [f2]; have := h.nn2 k hk; split <;> omega
  · rw [e2, rowS_bump _ hj, f1]
    have := h.row k hk
    split
    · rename_i hk'; subst hk'; omega
    · omega
  · rw [e2, colS_bump _ hi, f2]
    have := h.col k hk
    split
    · rename_i hk'; subst hk'; omega
    · omega
  · rw [f1, f2]
    rcases hd with hd | ⟨rfl, rfl⟩
    · have k3 := h.met i' j' hi' hj' hd
      split
      · rename_i e; subst e
        split
        · rename_i e; subst e; omega
        · omega
      · split
        · rename_i e; subst e; omega
        · omega
    · rw [if_pos rfl, if_pos rfl]; omega
  · rw [e2]
    unfold bump
    rw [if_neg (fun h => hd (.inr h)), h.rest i' j' hi' hj' (fun h => hd (.inl h))]
    rfl

/-- Masses with equal totals, and costs. -/
structure MQ (a b : List Int) (c : List (List Int)) : Prop where
  a5 : 1 ≤ a.length ∧ a.length ≤ 6
  b5 : 1 ≤ b.length ∧ b.length ≤ 6
  ha : Bnd 0 200 a
  hb : Bnd 0 200 b
  hc : Tb a.length b.length 0 1000000 c
  hs : sumL a = sumL b

/-- A plan of all of the masses. -/
structure Pl (a b : List Int) (p : List (List Int)) : Prop where
  tab : Tb a.length b.length 0 200 p
  plan : IsPlan a.length b.length (ga a) (ga b) (gt p)

/-! ### Distances in a plan -/
structure LL where
  far : List Int
  by' : List Int
  last : Int
def lwC (R : Nat) (c : Int) (i j : Nat) (s : LL) : LL := if s.far.getD i 0 + c < s.far.getD (R + j) 0 then ⟨s.far.set (R + j) (s.far.getD i 0 + c), s.by'.set (R + j) (i : Int), ((R + j : Nat) : Int)⟩ else s
def lwR (R : Nat) (c n : Int) (i j : Nat) (s : LL) : LL := if 0 < n ∧ s.far.getD (R + j) 0 - c < s.far.getD i 0 then ⟨s.far.set i (s.far.getD (R + j) 0 - c), s.by'.set i ((R + j : Nat) : Int), (i : Int)⟩ else s
def lw2 (c p : List (List Int)) (i j : Nat) (s : LL) : LL := lwR c.length ((c.getD i []).getD j 0) ((p.getD i []).getD j 0) i j (lwC c.length ((c.getD i []).getD j 0) i j s)
def lwRow (c p : List (List Int)) (i : Nat) (s : LL) : LL := upto (lw2 c p i) (c.getD i []).length s
/-- The same as a graph. -/
def cw (R : Nat) (c : Nat → Nat → Int) (u v : Nat) : Int := if u < R then c u (v - R) else - c v (u - R)
def eAt (R : Nat) (p : Nat → Nat → Int) (i j : Nat) : List (Nat × Nat) := (i, R + j) :: (if 0 < p i j then [(R + j, i)] else [])
def eRow (R : Nat) (p : Nat → Nat → Int) (i : Nat) : Nat → List (Nat × Nat)
  | 0 => []
  | j + 1 => eRow R p i j ++ eAt R p i j
def eTo (R C : Nat) (p : Nat → Nat → Int) : Nat → List (Nat × Nat)
  | 0 => []
  | i + 1 => eTo R C p i ++ eRow R p i C

section
variable {R C : Nat} {p : Nat → Nat → Int}
/-- The lists of distances, and their bounds. -/
structure Sim (N : Nat) (m : Int) (s : LL) (g : LS) : Prop where
  l1 : s.far.length = N
  l2 : s.by'.length = N
  d : ∀ v, v < N → s.far.getD v 0 = g.d v
  b : ∀ v, v < N → s.by'.getD v 0 = (g.b v : Int)
  bl : ∀ v, v < N → g.b v < N
  last : s.last = g.last
  bnd : ∀ v, v < N → -1000000 * m ≤ s.far.getD v 0 ∧ s.far.getD v 0 ≤ 0

theorem Sim.set {N : Nat} {m : Int} {s : LL} {g : LS} (h : Sim N m s g) {u v : Nat} (hu : u < N) (hv : v < N) (r : Nat) {x w : Int} (hx : x = g.d u + w) (hb : -1000000 * (m + 1) ≤ x ∧ x ≤ 0) :
    Sim N (m + 1) ⟨s.far.set v x, s.by'.set v (u : Int), (v : Int)⟩ ⟨upd g.d v (g.d u + w), upd g.b v u, upd g.t v r, (v : Int)⟩ := by
  refine ⟨by simp [h.l1], by simp [h.l2], fun k hk => ?_, fun k hk => ?_, fun k hk => ?_, rfl, fun k hk => ?_⟩
  · show (s.far.set v x).getD k 0 = upd g.d v (g.d u + w) k
    rw [ga_set (by rw [h.l1]; exact hv)]
    by_cases hkv : k = v
    · subst hkv; rw [if_pos rfl, upd_same]; exact hx
    · rw [if_neg hkv, upd_ne _ _ hkv]; exact h.d k hk
  · show (s.by'.set v (u : Int)).getD k 0 = ((upd g.b v u k : Nat) : Int)
    rw [ga_set (by rw [h.l2]; exact hv)]
    by_cases hkv : k = v
    · subst hkv; rw [if_pos rfl, upd_same]
    · rw [if_neg hkv, upd_ne _ _ hkv]; exact h.b k hk
  · show upd g.b v u k < N
    by_cases hkv : k = v
    · subst hkv; rw [upd_same]; exact hu
    · rw [upd_ne _ _ hkv]; exact h.bl k hk
  · show -1000000 * (m + 1) ≤ (s.far.set v x).getD k 0 ∧ (s.far.set v x).getD k 0 ≤ 0
    rw [ga_set (by rw [h.l1]; exact hv)]
    have := h.bnd k hk
    split <;> omega
theorem Sim.mono {N : Nat} {m m' : Int} {s : LL} {g : LS} (h : Sim N m s g) (hm : m ≤ m') : Sim N m' s g := ⟨h.l1, h.l2, h.d, h.b, h.bl, h.last, fun v hv => by have := h.bnd v hv; omega⟩

theorem Sim.lwC {m : Int} {s : LL} {g : LS} (h : Sim (R + C) m s g) {c : Nat → Nat → Int} {i j : Nat} (hi : i < R) (hj : j < C) (hc : 0 ≤ c i j ∧ c i j ≤ 1000000) (r : Nat) : Sim (R + C) (m + 1) (lwC R (c i j) i j s) (lw (cw R c) r g (i, R + j)) := by
  have e1 := h.d i (by omega)
  have e2 := h.d (R + j) (by omega)
  have e3 : cw R c i (R + j) = c i j := by
    unfold cw
    rw [if_pos hi, Nat.add_sub_cancel_left]
  unfold LC.lwC lw
  dsimp only
  rw [e3, ← e1, ← e2]
  by_cases hx : s.far.getD i 0 + c i j < s.far.getD (R + j) 0
  · rw [if_pos hx, if_pos hx]
    have b1 := h.bnd i (by omega)
    have b2 := h.bnd (R + j) (by omega)
    have := h.set (u := i) (v := R + j) (w := c i j) (by omega) (by omega) r (x := s.far.getD i 0 + c i j) (by rw [e1]) (by omega)
    rw [← e1] at this
    exact this
  · rw [if_neg hx, if_neg hx]
    exact h.mono (by omega)
theorem Sim.lwR {m : Int} {s : LL} {g : LS} (h : Sim (R + C) m s g) {c : Nat → Nat → Int} {i j : Nat} (hi : i < R) (hj : j < C) (hc : 0 ≤ c i j ∧ c i j ≤ 1000000) (r : Nat) (n : Int) : Sim (R + C) (m + 1) (lwR R (c i j) n i j s) (if 0 < n then lw (cw R c) r g (R + j, i) else g) := by
  have e1 := h.d i (by omega)
  have e2 := h.d (R + j) (by omega)
  have e3 : cw R c (R + j) i = - c i j := by
    unfold cw
    rw [if_neg (by omega), Nat.add_sub_cancel_left]
  unfold LC.lwR lw
  dsimp only
  rw [e3, ← e1, ← e2]
  by_cases hn : 0 < n
  · rw [if_pos hn]
    by_cases hx : s.far.getD (R + j) 0 - c i j < s.far.getD i 0
    · rw [if_pos ⟨hn, hx⟩, if_pos (by omega)]
      have b1 := h.bnd i (by omega)
      have b2 := h.bnd (R + j) (by omega)
      have := h.set (u := R + j) (v := i) (w := - c i j) (by omega) (by omega) r (x := s.far.getD (R + j) 0 - c i j) (by rw [e2]; omega) (by omega)
      rw [← e2] at this
      exact this
    · rw [if_neg (fun h => hx h.2), if_neg (by omega)]
      exact h.mono (by omega)
  · rw [if_neg (fun h => hn h.1), if_neg hn]
    exact h.mono (by omega)

variable {c q : List (List Int)}
theorem Sim.step {m : Int} {s : LL} {g : LS} (hc : Tb R C 0 1000000 c) (h : Sim (R + C) m s g) {i j : Nat} (hi : i < R) (hj : j < C) (r : Nat) : Sim (R + C) (m + 2) (lw2 c q i j s) ((eAt R (gt q) i j).foldl (lw (cw R (gt c)) r) g) := by
  have h1 := h.lwC (c := gt c) hi hj (hc.at' i j hi hj) r
  have h2 := h1.lwR (c := gt c) hi hj (hc.at' i j hi hj) r (gt q i j)
  unfold lw2 eAt
  rw [hc.rows, List.foldl_cons]
  have e : (if 0 < gt q i j then [(R + j, i)] else []).foldl (lw (cw R (gt c)) r) (lw (cw R (gt c)) r g (i, R + j)) = if 0 < gt q i j then lw (cw R (gt c)) r (lw (cw R (gt c)) r g (i, R + j)) (R + j, i) else lw (cw R (gt c)) r g (i, R + j) := by
    by_cases h0 : 0 < gt q i j
    · rw [if_pos h0, if_pos h0]; rfl
    · rw [if_neg h0, if_neg h0]; rfl
  rw [e]
  exact h2.mono (by omega)
theorem Sim.row {m : Int} {s : LL} {g : LS} (hc : Tb R C 0 1000000 c) (h : Sim (R + C) m s g) {i : Nat} (hi : i < R) (r : Nat) : ∀ j, j ≤ C → Sim (R + C) (m + 2 * j) (upto (lw2 c q i) j s) ((eRow R (gt q) i j).foldl (lw (cw R (gt c)) r) g)
  | 0, _ => h.mono (by omega)
  | j + 1, hj => by
    have h1 := (Sim.row hc h hi r j (by omega)).step (q := q) hc hi (j := j) (by omega) r
    show Sim (R + C) _ (lw2 c q i j (upto (lw2 c q i) j s)) ((eRow R (gt q) i j ++ eAt R (gt q) i j).foldl _ _)
    rw [List.foldl_append]
    exact h1.mono (by omega)
theorem Sim.tab {m : Int} {s : LL} {g : LS} (hc : Tb R C 0 1000000 c) (hC : C ≤ 6) (h : Sim (R + C) m s g) (r : Nat) : ∀ i, i ≤ R → Sim (R + C) (m + 12 * i) (upto (lwRow c q) i s) ((eTo R C (gt q) i).foldl (lw (cw R (gt c)) r) g)
  | 0, _ => h.mono (by omega)
  | i + 1, hi => by
    have h1 := (Sim.tab hc hC h r i (by omega)).row (q := q) hc (i := i) (by omega) r C (Nat.le_refl _)
    show Sim (R + C) _ (upto (lw2 c q i) (c.getD i []).length (upto (lwRow c q) i s)) ((eTo R C (gt q) i ++ eRow R (gt q) i C).foldl _ _)
    rw [List.foldl_append, hc.cols i (by omega)]
    exact h1.mono (by omega)
theorem Sim.start {m : Int} {s : LL} {g : LS} (h : Sim (R + C) m s g) : Sim (R + C) m { s with last := -1 } { g with last := -1 } := ⟨h.l1, h.l2, h.d, h.b, h.bl, rfl, h.bnd⟩
end
end Go.LC
