/- One unit more, along the cheapest chain: a cheapest plan of its size becomes one of the next size. No program; no condition. -/
import Derived.Test.YtaldpinkkgdklaaPn
namespace Go.OT
open Go.BF
set_option linter.unusedSimpArgs false
set_option linter.unusedVariables false

/-! ### The edges of a plan -/
def edgeAt (R : Nat) (c p : Nat → Nat → Int) (i j : Nat) : List Ed := ⟨i, R + j, c i j⟩ :: (if 0 < p i j then [⟨R + j, i, - c i j⟩] else [])
def edgesRow (R : Nat) (c p : Nat → Nat → Int) (i : Nat) : Nat → List Ed
  | 0 => []
  | j + 1 => edgesRow R c p i j ++ edgeAt R c p i j
def edgesTo (R C : Nat) (c p : Nat → Nat → Int) : Nat → List Ed
  | 0 => []
  | i + 1 => edgesTo R C c p i ++ edgesRow R c p i C

section
variable {R C : Nat} {c p : Nat → Nat → Int}
def IsEdge (R C : Nat) (c p : Nat → Nat → Int) (e : Ed) : Prop := ∃ i j, i < R ∧ j < C ∧ (e = ⟨i, R + j, c i j⟩ ∨ 0 < p i j ∧ e = ⟨R + j, i, - c i j⟩)
theorem mem_edgeAt {e : Ed} {i j : Nat} : e ∈ edgeAt R c p i j ↔ e = ⟨i, R + j, c i j⟩ ∨ 0 < p i j ∧ e = ⟨R + j, i, - c i j⟩ := by
  unfold edgeAt
  by_cases h : 0 < p i j
  · simp [h]
  · simp [h]
theorem mem_edgesRow {e : Ed} {i : Nat} : ∀ (n : Nat), e ∈ edgesRow R c p i n ↔ ∃ j, j < n ∧ e ∈ edgeAt R c p i j
  | 0 => by simp [edgesRow]
  | n + 1 => by
    simp only [edgesRow, List.mem_append, mem_edgesRow n]
    constructor
    · rintro (⟨j, hj, h⟩ | h)
      · exact ⟨j, by omega, h⟩
      · exact ⟨n, by omega, h⟩
    · rintro ⟨j, hj, h⟩
      rcases Nat.lt_or_ge j n with h2 | h2
      · exact .inl ⟨j, h2, h⟩
      · obtain rfl : j = n := by omega
        exact .inr h
theorem mem_edgesTo {e : Ed} : ∀ (n : Nat), e ∈ edgesTo R C c p n ↔ ∃ i j, i < n ∧ j < C ∧ e ∈ edgeAt R c p i j
  | 0 => by simp [edgesTo]
  | n + 1 => by
    simp only [edgesTo, List.mem_append, mem_edgesTo n, mem_edgesRow]
    constructor
    · rintro (⟨i, j, hi, hj, h⟩ | ⟨j, hj, h⟩)
      · exact ⟨i, j, by omega, hj, h⟩
      · exact ⟨n, j, by omega, hj, h⟩
    · rintro ⟨i, j, hi, hj, h⟩
      rcases Nat.lt_or_ge i n with h2 | h2
      · exact .inl ⟨i, j, h2, hj, h⟩
      · obtain rfl : i = n := by omega
        exact .inr ⟨j, hj, h⟩
theorem mem_edges {e : Ed} : e ∈ edgesTo R C c p R ↔ IsEdge R C c p e := by
  rw [mem_edgesTo]
  constructor
  · rintro ⟨i, j, hi, hj, h⟩; exact ⟨i, j, hi, hj, mem_edgeAt.1 h⟩
  · rintro ⟨i, j, hi, hj, h⟩; exact ⟨i, j, hi, hj, mem_edgeAt.2 h⟩
end

/-! ### The lists as distances in a graph -/
def toSt (R C : Nat) (s : Dst) : St :=
  ⟨fun v => if v < R then s.ra.getD v 0 else if v < R + C then s.ca.getD (v - R) 0 else far,
   fun v => if v < R then (if s.rf.getD v 0 < 0 then -1 else R + s.rf.getD v 0) else if v < R + C then s.cf.getD (v - R) 0 else -2⟩

section
variable {R C : Nat} {s : Dst}
theorem toSt_row {i : Nat} (hi : i < R) : (toSt R C s).d i = s.ra.getD i 0 := if_pos hi
theorem toSt_col {j : Nat} (hj : j < C) : (toSt R C s).d (R + j) = s.ca.getD j 0 := by
  show (if R + j < R then _ else if R + j < R + C then _ else _) = _
  rw [if_neg (by omega), if_pos (by omega), Nat.add_sub_cancel_left]
theorem toSt_rf {i : Nat} (hi : i < R) : (toSt R C s).fr i = if s.rf.getD i 0 < 0 then -1 else R + s.rf.getD i 0 := if_pos hi
theorem toSt_cf {j : Nat} (hj : j < C) : (toSt R C s).fr (R + j) = s.cf.getD j 0 := by
  show (if R + j < R then _ else if R + j < R + C then _ else _) = _
  rw [if_neg (by omega), if_pos (by omega), Nat.add_sub_cancel_left]
theorem toSt_out {v : Nat} (hv : R + C ≤ v) : (toSt R C s).d v = far := by
  show (if v < R then _ else if v < R + C then _ else far) = far
  rw [if_neg (by omega), if_neg (by omega)]

theorem relaxC_sim {m : Int} (h : DSt R C m s) {i j : Nat} (hi : i < R) (hj : j < C) (x : Int) : toSt R C (relaxC x i j s) = rlx far (toSt R C s) ⟨i, R + j, x⟩ := by
  unfold relaxC rlx
  dsimp only
  rw [toSt_row hi, toSt_col hj]
  by_cases hc : s.ra.getD i 0 < far ∧ s.ra.getD i 0 + x < s.ca.getD j 0
  · rw [if_pos hc, if_pos hc]
    unfold toSt
    dsimp only
    congr 1
    · funext v
      unfold upF
      dsimp only
      by_cases hv : v = R + j
      · subst hv
        rw [if_neg (by omega), if_pos (by omega), if_pos rfl, Nat.add_sub_cancel_left, ga_set (by rw [h.l3]; exact hj), if_pos rfl]
      · rw [if_neg hv]
        by_cases h1 : v < R
        · rw [if_pos h1, if_pos h1]
        · rw [if_neg h1, if_neg h1, ga_set (by rw [h.l3]; exact hj), if_neg (show ¬ v - R = j by omega)]
    · funext v
      unfold upF
      dsimp only
      by_cases hv : v = R + j
      · subst hv
        rw [if_neg (by omega), if_pos (by omega), if_pos rfl, Nat.add_sub_cancel_left, ga_set (by rw [h.l4]; exact hj), if_pos rfl]
      · rw [if_neg hv]
        by_cases h1 : v < R
        · rw [if_pos h1, if_pos h1]
        · rw [if_neg h1, if_neg h1, ga_set (by rw [h.l4]; exact hj), if_neg (show ¬ v - R = j by omega)]
  · rw [if_neg hc, if_neg hc]

theorem relaxR_sim {m : Int} (h : DSt R C m s) {i j : Nat} (hi : i < R) (hj : j < C) (x n : Int) : toSt R C (relaxR x n i j s) = if 0 < n then rlx far (toSt R C s) ⟨R + j, i, - x⟩ else toSt R C s := by
  unfold relaxR rlx
  dsimp only
  rw [toSt_row hi, toSt_col hj]
  by_cases hn : 0 < n
  · rw [if_pos hn]
    by_cases hc : s.ca.getD j 0 < far ∧ s.ca.getD j 0 - x < s.ra.getD i 0
    · rw [if_pos ⟨hn, hc⟩, if_pos (by omega)]
      unfold toSt
      dsimp only
      congr 1
      · funext v
        unfold upF
        dsimp only
        by_cases hv : v = i
        · subst hv
          rw [if_pos hi, if_pos rfl, ga_set (by rw [h.l1]; exact hi), if_pos rfl]; omega
        · rw [if_neg hv, ga_set (by rw [h.l1]; exact hi), if_neg hv]
      · funext v
        unfold upF
        dsimp only
        by_cases hv : v = i
        · subst hv
          rw [if_pos hi, if_pos rfl, ga_set (by rw [h.l2]; exact hi), if_pos rfl, if_neg (by omega)]; omega
        · rw [if_neg hv, ga_set (by rw [h.l2]; exact hi), if_neg hv]
    · rw [if_neg (fun h => hc h.2), if_neg (by omega)]
  · rw [if_neg hn, if_neg (fun h => hn h.1)]

variable {c p : List (List Int)}
theorem relax_sim {m : Int} (hc : Tb R C 0 99 c) (h : DSt R C m s) {i j : Nat} (hi : i < R) (hj : j < C) : toSt R C (relax c p i j s) = (edgeAt R (gt c) (gt p) i j).foldl (rlx far) (toSt R C s) := by
  unfold relax edgeAt
  rw [relaxR_sim (h.relaxC (hc.at' i j hi hj) hi hj) hi hj, relaxC_sim h hi hj, List.foldl_cons]
  show (if 0 < gt p i j then _ else _) = _
  by_cases hp : 0 < gt p i j
  · rw [if_pos hp, if_pos hp]; rfl
  · rw [if_neg hp, if_neg hp]; rfl

theorem relaxRow_sim {m : Int} (hc : Tb R C 0 99 c) (h : DSt R C m s) {i : Nat} (hi : i < R) : ∀ n, n ≤ C → toSt R C (upto (relax c p i) n s) = (edgesRow R (gt c) (gt p) i n).foldl (rlx far) (toSt R C s)
  | 0, _ => rfl
  | n + 1, hn => by
    show toSt R C (relax c p i n (upto (relax c p i) n s)) = (edgesRow R (gt c) (gt p) i n ++ edgeAt R (gt c) (gt p) i n).foldl (rlx far) (toSt R C s)
    rw [List.foldl_append, ← relaxRow_sim hc h hi n (by omega)]
    exact relax_sim hc (DSt.row p hc h hi n (by omega)) hi (by omega)
theorem relaxTo_sim {m : Int} (hc : Tb R C 0 99 c) (hC : C ≤ 6) (h : DSt R C m s) : ∀ n, n ≤ R → toSt R C (upto (relaxRow c p) n s) = (edgesTo R C (gt c) (gt p) n).foldl (rlx far) (toSt R C s)
  | 0, _ => rfl
  | n + 1, hn => by
    show toSt R C (upto (relax c p n) (c.getD n []).length (upto (relaxRow c p) n s)) = (edgesTo R C (gt c) (gt p) n ++ edgesRow R (gt c) (gt p) n C).foldl (rlx far) (toSt R C s)
    rw [List.foldl_append, ← relaxTo_sim hc hC h n (by omega), hc.cols n (by omega)]
    exact relaxRow_sim hc (DSt.tab p hc hC h n (by omega)) (by omega) C (Nat.le_refl _)
end

theorem distK_sim {a b : List Int} {c p : List (List Int)} (hc : Tb a.length b.length 0 99 c) (hp : Shp a b p) : ∀ k : Nat, toSt a.length b.length (distK a b c p k) = sweeps far (edgesTo a.length b.length (gt c) (gt p) a.length) k (toSt a.length b.length (startD (leftV a b p).1 a.length b.length))
  | 0 => rfl
  | k + 1 => by
    show toSt a.length b.length (upto (relaxRow c p) c.length (distK a b c p k)) = sweep far _ (sweeps far _ k _)
    rw [hc.rows, relaxTo_sim hc hp.b5.2 (distK_st hc hp k) a.length (Nat.le_refl _), distK_sim hc hp k]
    rfl

/-! ### More of relaxing -/
theorem low_foldl {F : Int} {pot : Nat → Int} : ∀ (l : List Ed) (s : St), (∀ e ∈ l, pot e.v ≤ pot e.u + e.c) → (∀ v, pot v ≤ s.d v) → ∀ v, pot v ≤ (l.foldl (rlx F) s).d v
  | [], _, _, h => h
  | e :: l, s, hl, h => by
    refine low_foldl l (rlx F s e) (fun e' he' => hl e' (List.mem_cons_of_mem _ he')) fun v => ?_
    have h1 := hl e (List.mem_cons_self ..)
    unfold rlx
    split
    · simp only [upF]
      split
      · rename_i hv
        subst hv
        have := h e.u; omega
      · exact h v
    · exact h v
theorem low_sweeps {F : Int} {pot : Nat → Int} {es : List Ed} {s : St} (hp : ∀ e ∈ es, pot e.v ≤ pot e.u + e.c) (h : ∀ v, pot v ≤ s.d v) : ∀ k v, pot v ≤ (sweeps F es k s).d v
  | 0 => h
  | k + 1 => low_foldl es _ hp (low_sweeps hp h k)
theorem root_foldl {F : Int} {d0 : Nat → Int} : ∀ (l : List Ed) (s : St), (∀ v, s.fr v = -1 → s.d v = d0 v) → ∀ v, (l.foldl (rlx F) s).fr v = -1 → (l.foldl (rlx F) s).d v = d0 v
  | [], _, h => h
  | e :: l, s, h => by
    refine root_foldl l (rlx F s e) fun v hv => ?_
    unfold rlx at hv ⊢
    split
    · rename_i hc
      rw [if_pos hc] at hv
      simp only [upF] at hv ⊢
      by_cases he : v = e.v
      · rw [if_pos he] at hv; omega
      · rw [if_neg he] at hv ⊢; exact h v hv
    · rename_i hc
      rw [if_neg hc] at hv
      exact h v hv
theorem root_sweeps {F : Int} {es : List Ed} {s : St} : ∀ k v, (sweeps F es k s).fr v = -1 → (sweeps F es k s).d v = s.d v
  | 0 => fun _ _ => rfl
  | k + 1 => root_foldl es _ (root_sweeps k)
theorem le_sweeps {F : Int} {es : List Ed} {s : St} : ∀ k v, (sweeps F es k s).d v ≤ s.d v
  | 0, v => Int.le_refl _
  | k + 1, v => Int.le_trans (foldl_le F es _ v) (le_sweeps k v)

/-- Every number up to a chain's length is the length of a chain. -/
theorem Chain.at {F : Int} {s : St} {k v : Nat} (h : BF.Chain F s k v) : ∀ i, i ≤ k → ∃ u, BF.Chain F s i u := by
  induction h with
  | zero h1 h2 => intro i hi; obtain rfl : i = 0 := by omega
                  exact ⟨_, .zero h1 h2⟩
  | succ h1 h2 h3 ih =>
    rename_i k v u
    intro i hi
    rcases Nat.lt_or_ge i (k + 1) with h4 | h4
    · exact ih i (by omega)
    · obtain rfl : i = k + 1 := by omega
      exact ⟨_, .succ h1 h2 h3⟩
theorem Chain.reached {F : Int} {s : St} {k v : Nat} (h : BF.Chain F s k v) : s.d v < F := by
  cases h <;> assumption
theorem Chain.short {F : Int} {s : St} {N k v : Nat} (hN : ∀ v, s.d v < F → v < N) (h : BF.Chain F s k v) : k + 1 ≤ N := by
  have h1 : ∀ i, ∃ u, i ≤ k → BF.Chain F s i u := fun i => by
    by_cases hi : i ≤ k
    · obtain ⟨u, hu⟩ := Chain.at h i hi
      exact ⟨u, fun _ => hu⟩
    · exact ⟨0, fun h => absurd h hi⟩
  refine pigeon N (k + 1) (fun i => Classical.choose (h1 i)) (fun i hi => hN _ (Chain.reached (Classical.choose_spec (h1 i) (by omega)))) fun i j hij hj he => ?_
  have h2 := Classical.choose_spec (h1 i) (by omega)
  have h3 := Classical.choose_spec (h1 j) (by omega)
  have h4 : Classical.choose (h1 i) = Classical.choose (h1 j) := he
  rw [h4] at h2
  have := BF.Chain.len h2 _ h3
  omega

/-! ### Where distances start -/
theorem startR_get (rows : List Int) (n : Nat) : ∀ k, k ≤ n → ∀ i, (startR rows n k).1.getD i 0 = (if i < k ∧ rows.getD i 0 = 0 then far else 0) ∧ (startR rows n k).2.getD i 0 = if i < k then -1 else 0
  | 0, _, i => by
    have e : ∀ m, (List.replicate m (0 : Int)).getD i 0 = 0 := fun m => by
      rw [List.getD_eq_getElem?_getD, List.getElem?_replicate]; split <;> rfl
    rw [if_neg (by omega), if_neg (by omega)]
    exact ⟨e n, e n⟩
  | k + 1, hk, i => by
    obtain ⟨h1, h2⟩ := startR_get rows n k (by omega) i
    obtain ⟨l1, l2⟩ := startR_len rows n k
    have e : startR rows n (k + 1) = startStep rows k (startR rows n k) := rfl
    rw [e, startStep]
    dsimp only
    constructor
    · by_cases hz : rows.getD k 0 = 0
      · rw [if_pos hz, ga_set (by omega)]
        by_cases hi : i = k
        · subst hi
          rw [if_pos rfl, if_pos ⟨by omega, hz⟩]
        · rw [if_neg hi, h1]
          by_cases h3 : i < k ∧ rows.getD i 0 = 0
          · rw [if_pos h3, if_pos ⟨by omega, h3.2⟩]
          · rw [if_neg h3, if_neg (fun h => h3 ⟨by omega, h.2⟩)]
      · rw [if_neg hz, h1]
        by_cases h3 : i < k ∧ rows.getD i 0 = 0
        · rw [if_pos h3, if_pos ⟨by omega, h3.2⟩]
        · rw [if_neg h3, if_neg (fun h => h3 ⟨by have : i ≠ k := fun e => hz (e ▸ h.2); omega, h.2⟩)]
    · rw [ga_set (by omega), h2]
      by_cases hi : i = k
      · rw [if_pos hi, if_pos (by omega)]
      · rw [if_neg hi]
        by_cases h3 : i < k
        · rw [if_pos h3, if_pos (by omega)]
        · rw [if_neg h3, if_neg (by omega)]
theorem startC_get (n : Nat) : ∀ k, k ≤ n → ∀ j, j < k → (startC n k).getD j 0 = far
  | 0, _, j, hj => by omega
  | k + 1, hk, j, hj => by
    show ((startC n k).set k far).getD j 0 = far
    rw [ga_set (by rw [startC_len]; omega)]
    split
    · rfl
    · exact startC_get n k (by omega) j (by omega)

/-- What the sweeps come to. -/
structure DistOK (R C : Nat) (a : Nat → Int) (c p : Nat → Nat → Int) (r s : Nat → Int) (x : Dst) : Prop where
  rest : ∀ i j, i < R → j < C → x.ra.getD i 0 < far → x.ca.getD j 0 ≤ x.ra.getD i 0 + c i j
  back : ∀ i j, i < R → j < C → 0 < p i j → x.ca.getD j 0 < far → x.ra.getD i 0 ≤ x.ca.getD j 0 - c i j
  rlow : ∀ i, i < R → r i ≤ x.ra.getD i 0
  slow : ∀ j, j < C → s j ≤ x.ca.getD j 0
  left : ∀ i, i < R → rowS C p i < a i → x.ra.getD i 0 = 0
  way : BF.Way far (edgesTo R C c p R) (toSt R C x)
  root : ∀ i, i < R → x.ra.getD i 0 < far → (toSt R C x).fr i = -1 → rowS C p i < a i ∧ x.ra.getD i 0 = 0

section
variable {a b : List Int} {c p : List (List Int)} {r s : Nat → Int} {V : Int}
theorem dist_ok (hc : Tb a.length b.length 0 99 c) (hp : Shp a b p) (hq : IsPart a.length b.length (ga a) (ga b) (gt p)) (hg : Good a.length b.length (ga a) (ga b) (gt c) (gt p) r s V) (hr : ∀ i, i < a.length → r i ≤ 99) (hs : ∀ j, j < b.length → s j ≤ 99) :
    DistOK a.length b.length (ga a) (gt c) (gt p) r s (dist a b c p) := by
  have sim := distK_sim hc hp (a.length + b.length)
  change toSt a.length b.length (dist a b c p) = _ at sim
  generalize hx : dist a b c p = x at sim ⊢
  have hfar : far = 1099511627776 := rfl
  -- the start
  let s0 := toSt a.length b.length (startD (leftV a b p).1 a.length b.length)
  change toSt a.length b.length x = sweeps far (edgesTo a.length b.length (gt c) (gt p) a.length) (a.length + b.length) s0 at sim
  have h0r : ∀ i, i < a.length → s0.d i = if rowS b.length (gt p) i < ga a i then 0 else far := fun i hi => by
    show (toSt _ _ _).d i = _
    rw [toSt_row hi]
    show (startR (leftV a b p).1 a.length a.length).1.getD i 0 = _
    rw [(startR_get (leftV a b p).1 a.length a.length (Nat.le_refl _) i).1, leftV_row hp hi]
    have := hq.row i hi
    by_cases h1 : rowS b.length (gt p) i < ga a i
    · rw [if_pos h1, if_neg (by omega)]
    · rw [if_neg h1, if_pos (by omega)]
  have h0c : ∀ j, j < b.length → s0.d (a.length + j) = far := fun j hj => by
    show (toSt _ _ _).d _ = _
    rw [toSt_col hj]
    exact startC_get b.length b.length (Nat.le_refl _) j hj
  have h0f : ∀ i, i < a.length → s0.fr i = -1 := fun i hi => by
    show (toSt _ _ _).fr i = _
    rw [toSt_rf hi]
    show (if (startR (leftV a b p).1 a.length a.length).2.getD i 0 < 0 then _ else _) = _
    rw [(startR_get (leftV a b p).1 a.length a.length (Nat.le_refl _) i).2, if_pos hi]
    rfl
  have h0o : ∀ v, a.length + b.length ≤ v → s0.d v = far := fun v hv => toSt_out hv
  have hsplit : ∀ v, v < a.length ∨ (∃ j, j < b.length ∧ v = a.length + j) ∨ a.length + b.length ≤ v := fun v => by
    rcases Nat.lt_or_ge v a.length with h | h
    · exact .inl h
    · rcases Nat.lt_or_ge v (a.length + b.length) with h2 | h2
      · exact .inr (.inl ⟨v - a.length, by omega, by omega⟩)
      · exact .inr (.inr h2)
  have h0F : ∀ v, s0.d v ≤ far := fun v => by
    rcases hsplit v with h | ⟨j, hj, rfl⟩ | h
    · rw [h0r v h]; split <;> omega
    · rw [h0c j hj]; omega
    · rw [h0o v h]; omega
  -- the prices
  let pot : Nat → Int := fun v => if v < a.length then r v else if v < a.length + b.length then s (v - a.length) else 0
  have potR : ∀ i, i < a.length → pot i = r i := fun i hi => if_pos hi
  have potC : ∀ j, j < b.length → pot (a.length + j) = s j := fun j hj => by
    show (if _ then _ else if _ then _ else _) = _
    rw [if_neg (by omega), if_pos (by omega), Nat.add_sub_cancel_left]
  have hpot : ∀ e ∈ edgesTo a.length b.length (gt c) (gt p) a.length, pot e.v ≤ pot e.u + e.c := fun e he => by
    obtain ⟨i, j, hi, hj, h | ⟨h0, h⟩⟩ := mem_edges.1 he
    · subst h
      dsimp only
      rw [potR i hi, potC j hj]
      exact hg.hold i j hi hj
    · subst h
      dsimp only
      rw [potR i hi, potC j hj]
      have := hg.tight i j hi hj h0
      omega
  have hN : ∀ e ∈ edgesTo a.length b.length (gt c) (gt p) a.length, e.u < a.length + b.length ∧ e.v < a.length + b.length := fun e he => by
    obtain ⟨i, j, hi, hj, h | ⟨h0, h⟩⟩ := mem_edges.1 he <;> subst h <;> dsimp only <;> omega
  have rest := rest_sweeps (F := far) s0 hpot hN
  have w0 : BF.Way far (edgesTo a.length b.length (gt c) (gt p) a.length) s0 := by
    refine ⟨fun v hv => ?_, fun v u hv hu => ?_⟩
    · rcases hsplit v with h | ⟨j, hj, rfl⟩ | h
      · exact ⟨0, .zero hv (h0f v h)⟩
      · rw [h0c j hj] at hv; omega
      · rw [h0o v h] at hv; omega
    · rcases hsplit v with h | ⟨j, hj, rfl⟩ | h
      · rw [h0f v h] at hu; omega
      · rw [h0c j hj] at hv; omega
      · rw [h0o v h] at hv; omega
  have way := (BF.Way.sweeps hpot s0 w0 h0F (a.length + b.length)).1
  have low : ∀ v, pot v ≤ (sweeps far (edgesTo a.length b.length (gt c) (gt p) a.length) (a.length + b.length) s0).d v := low_sweeps hpot (fun v => by
    rcases hsplit v with h | ⟨j, hj, rfl⟩ | h
    · rw [h0r v h, potR v h]
      split
      · rename_i h1
        rw [hg.rleft v h h1]; omega
      · have := hr v h; omega
    · rw [h0c j hj, potC j hj]; have := hs j hj; omega
    · rw [h0o v h]
      show (if _ then _ else if _ then _ else _) ≤ _
      rw [if_neg (by omega), if_neg (by omega)]; omega) _
  have le := fun v => le_sweeps (F := far) (es := edgesTo a.length b.length (gt c) (gt p) a.length) (s := s0) (a.length + b.length) v
  have root := fun v => root_sweeps (F := far) (es := edgesTo a.length b.length (gt c) (gt p) a.length) (s := s0) (a.length + b.length) v
  rw [← sim] at rest way low le root
  have rlow : ∀ i, i < a.length → r i ≤ x.ra.getD i 0 := fun i hi => by
    have := low i
    rwa [potR i hi, toSt_row hi] at this
  refine ⟨fun i j hi hj h => ?_, fun i j hi hj h0 h => ?_, rlow, fun j hj => ?_, fun i hi h => ?_, way, fun i hi h hf => ?_⟩
  · have := rest ⟨i, a.length + j, gt c i j⟩ (mem_edges.2 ⟨i, j, hi, hj, .inl rfl⟩)
    dsimp only at this
    rw [toSt_row hi, toSt_col hj] at this
    exact this h
  · have := rest ⟨a.length + j, i, - gt c i j⟩ (mem_edges.2 ⟨i, j, hi, hj, .inr ⟨h0, rfl⟩⟩)
    dsimp only at this
    rw [toSt_row hi, toSt_col hj] at this
    have := this h
    omega
  · have := low (a.length + j)
    rwa [potC j hj, toSt_col hj] at this
  · have h1 := le i
    rw [toSt_row hi, h0r i hi, if_pos h] at h1
    have h2 := rlow i hi
    have h3 := hg.rnn i hi
    omega
  · have h1 := root i hf
    rw [toSt_row hi, h0r i hi] at h1
    by_cases h2 : rowS b.length (gt p) i < ga a i
    · rw [if_pos h2] at h1
      exact ⟨h2, h1⟩
    · rw [if_neg h2] at h1
      omega
end
end Go.OT
