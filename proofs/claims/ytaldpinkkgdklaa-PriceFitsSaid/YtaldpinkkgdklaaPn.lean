/- One unit more is moved along the cheapest chain: the numbers on the way, and their bounds. No program; no condition. -/
import Derived.Test.YtaldpinkkgdklaaPb
import Derived.Test.YtaldpinkkgdklaaPc
namespace Go.OT
set_option linter.unusedSimpArgs false
set_option linter.unusedVariables false

/-- f at the numbers below n, one after another. -/
def upto {σ : Type} (f : Nat → σ → σ) : Nat → σ → σ
  | 0, s => s
  | n + 1, s => f n (upto f n s)

def ga (l : List Int) (i : Nat) : Int := l.getD i 0
def gt (p : List (List Int)) (i j : Nat) : Int := (p.getD i []).getD j 0

theorem mem_getD {α : Type} {l : List α} (d : α) {i : Nat} (h : i < l.length) : l.getD i d ∈ l := by
  rw [List.getD_eq_getElem?_getD, List.getElem?_eq_getElem h]
  exact List.getElem_mem h
theorem getD_set {α : Type} (l : List α) (i k : Nat) (x d : α) : (l.set i x).getD k d = if i = k ∧ i < l.length then x else l.getD k d := by
  rw [List.getD_eq_getElem?_getD, List.getD_eq_getElem?_getD, List.getElem?_set]
  by_cases h : i = k
  · subst h
    by_cases h2 : i < l.length
    · rw [if_pos rfl, if_pos h2, if_pos ⟨rfl, h2⟩]; rfl
    · rw [if_pos rfl, if_neg h2, if_neg (fun h => h2 h.2), List.getElem?_eq_none (by omega)]
  · rw [if_neg h, if_neg (fun h2 => h h2.1)]
theorem ga_set {l : List Int} {i : Nat} (h : i < l.length) (x : Int) (k : Nat) : (l.set i x).getD k 0 = if k = i then x else l.getD k 0 := by
  rw [getD_set]
  by_cases hk : k = i
  · rw [if_pos ⟨hk.symm, h⟩, if_pos hk]
  · rw [if_neg (fun h2 => hk h2.1.symm), if_neg hk]

/-! ### What a plan leaves -/
def takeN (l : List Int) (i : Nat) (n : Int) : List Int := l.set i (l.getD i 0 - n)
def leftStep (p : List (List Int)) (i j : Nat) (s : List Int × List Int) : List Int × List Int := (takeN s.1 i ((p.getD i []).getD j 0), takeN s.2 j ((p.getD i []).getD j 0))
def leftRow (p : List (List Int)) (i : Nat) (s : List Int × List Int) : List Int × List Int := upto (leftStep p i) (p.getD i []).length s
/-- What a plan leaves. -/
def leftV (a b : List Int) (p : List (List Int)) : List Int × List Int := upto (leftRow p) p.length (a, b)

def Bnd (lo hi : Int) (l : List Int) : Prop := ∀ x ∈ l, lo ≤ x ∧ x ≤ hi
theorem Bnd.at {lo hi : Int} {l : List Int} (h : Bnd lo hi l) {i : Nat} (h1 : i < l.length) : lo ≤ l.getD i 0 ∧ l.getD i 0 ≤ hi := h _ (mem_getD 0 h1)
theorem Bnd.of {lo hi : Int} {l : List Int} (h : ∀ i, i < l.length → lo ≤ l.getD i 0 ∧ l.getD i 0 ≤ hi) : Bnd lo hi l := fun x hx => by
  obtain ⟨i, hi, rfl⟩ := List.getElem_of_mem hx
  have := h i hi
  rwa [List.getD_eq_getElem?_getD, List.getElem?_eq_getElem hi] at this
theorem Bnd.take {lo hi : Int} {l : List Int} (h : Bnd lo hi l) {i : Nat} {n : Int} (h1 : i < l.length) (hn : 0 ≤ n ∧ n ≤ 200) : Bnd (lo - 200) hi (takeN l i n) := by
  intro x hx
  have h0 := h.at h1
  rcases List.mem_or_eq_of_mem_set hx with hx | rfl
  · have := h x hx; omega
  · omega
theorem Bnd.mono {lo hi lo' : Int} {l : List Int} (h : Bnd lo hi l) (hl : lo' ≤ lo) : Bnd lo' hi l := fun x hx => by have := h x hx; omega
theorem Bnd.set {lo hi : Int} {l : List Int} (h : Bnd lo hi l) {i : Nat} {x : Int} (hx : lo ≤ x ∧ x ≤ hi) : Bnd lo hi (l.set i x) := by
  intro y hy
  rcases List.mem_or_eq_of_mem_set hy with hy | rfl
  · exact h y hy
  · exact hx
theorem takeN_length (l : List Int) (i : Nat) (n : Int) : (takeN l i n).length = l.length := by simp [takeN]

/-- A table of R rows and C columns with numbers from lo to hi. -/
structure Tb (R C : Nat) (lo hi : Int) (p : List (List Int)) : Prop where
  rows : p.length = R
  cols : ∀ i, i < R → (p.getD i []).length = C
  at' : ∀ i j, i < R → j < C → lo ≤ (p.getD i []).getD j 0 ∧ (p.getD i []).getD j 0 ≤ hi
theorem Tb.mem {R C : Nat} {lo hi : Int} {p : List (List Int)} (h : Tb R C lo hi p) {i : Nat} (hi' : i < R) : Bnd lo hi (p.getD i []) := Bnd.of fun j hj => h.at' i j hi' (by rw [← h.cols i hi']; exact hj)

/-- Masses and a table of their shape. -/
structure Shp (a b : List Int) (p : List (List Int)) : Prop where
  a5 : 1 ≤ a.length ∧ a.length ≤ 6
  b5 : 1 ≤ b.length ∧ b.length ≤ 6
  ha : Bnd 0 200 a
  hb : Bnd 0 200 b
  tab : Tb a.length b.length 0 200 p
theorem Shp.rows {a b : List Int} {p : List (List Int)} (h : Shp a b p) : p.length = a.length := h.tab.rows
theorem Shp.cols {a b : List Int} {p : List (List Int)} (h : Shp a b p) : ∀ i, i < p.length → (p.getD i []).length = b.length := fun i hi => h.tab.cols i (by rw [← h.rows]; exact hi)
theorem Shp.mem {a b : List Int} {p : List (List Int)} (h : Shp a b p) : ∀ i, i < p.length → Bnd 0 200 (p.getD i []) := fun i hi => h.tab.mem (by rw [← h.rows]; exact hi)

/-- What holds of the lists on the way. -/
structure LSt (a b : List Int) (m : Int) (s : List Int × List Int) : Prop where
  l1 : s.1.length = a.length
  l2 : s.2.length = b.length
  b1 : Bnd (-200 * m) 200 s.1
  b2 : Bnd (-200 * m) 200 s.2

section
variable {a b : List Int} {p : List (List Int)}
theorem LSt.step (h : Shp a b p) {m : Int} {s : List Int × List Int} (hs : LSt a b m s) {i j : Nat} (hi : i < p.length) (hj : j < b.length) : LSt a b (m + 1) (leftStep p i j s) := by
  have hn : 0 ≤ (p.getD i []).getD j 0 ∧ (p.getD i []).getD j 0 ≤ 200 := (h.mem i hi).at (by rw [h.cols i hi]; exact hj)
  exact ⟨by simp [leftStep, takeN_length, hs.l1], by simp [leftStep, takeN_length, hs.l2],
    (hs.b1.take (by rw [hs.l1, ← h.rows]; exact hi) hn).mono (by omega), (hs.b2.take (by rw [hs.l2]; exact hj) hn).mono (by omega)⟩
theorem LSt.row (h : Shp a b p) {m : Int} {s : List Int × List Int} (hs : LSt a b m s) {i : Nat} (hi : i < p.length) : ∀ j, j ≤ b.length → LSt a b (m + j) (upto (leftStep p i) j s)
  | 0, _ => by simpa [upto] using hs
  | j + 1, hj => by
    have := (LSt.row h hs hi j (by omega)).step h hi (j := j) (by omega)
    simpa [upto, Int.add_assoc] using this
theorem LSt.mono {m m' : Int} {s : List Int × List Int} (hs : LSt a b m s) (h : m ≤ m') : LSt a b m' s := ⟨hs.l1, hs.l2, hs.b1.mono (by omega), hs.b2.mono (by omega)⟩
theorem LSt.all (h : Shp a b p) : ∀ i, i ≤ p.length → LSt a b (6 * i) (upto (leftRow p) i (a, b))
  | 0, _ => ⟨rfl, rfl, h.ha.mono (by simp), h.hb.mono (by simp)⟩
  | i + 1, hi => by
    have h1 := LSt.row h (LSt.all h i (by omega)) (i := i) (by omega) b.length (Nat.le_refl _)
    have h2 := h.b5
    simp only [upto, leftRow]
    rw [h.cols i (by omega)]
    exact h1.mono (by omega)

theorem takeN_get {l : List Int} {i : Nat} (h : i < l.length) (n : Int) (k : Nat) : (takeN l i n).getD k 0 = l.getD k 0 - if k = i then n else 0 := by
  unfold takeN
  rw [ga_set h]
  by_cases hk : k = i
  · rw [if_pos hk, if_pos hk, hk]
  · rw [if_neg hk, if_neg hk]; omega

theorem leftStep_get {n m : Nat} {s : List Int × List Int} (hs : s.1.length = n ∧ s.2.length = m) {i : Nat} (hi : i < n) : ∀ j, j ≤ m →
    (upto (leftStep p i) j s).1.length = n ∧ (upto (leftStep p i) j s).2.length = m ∧
    (∀ k, (upto (leftStep p i) j s).1.getD k 0 = s.1.getD k 0 - if k = i then sg j (gt p i) else 0) ∧
    (∀ k, (upto (leftStep p i) j s).2.getD k 0 = s.2.getD k 0 - if k < j then gt p i k else 0)
  | 0, _ => ⟨hs.1, hs.2, fun k => by simp [upto, sg], fun k => by simp [upto]⟩
  | j + 1, hj => by
    obtain ⟨h1, h2, h3, h4⟩ := leftStep_get hs hi j (by omega)
    refine ⟨by simp [upto, leftStep, takeN_length, h1], by simp [upto, leftStep, takeN_length, h2], fun k => ?_, fun k => ?_⟩
    · show (takeN (upto (leftStep p i) j s).1 i (gt p i j)).getD k 0 = _
      rw [takeN_get (by omega), h3]
      by_cases hk : k = i
      · rw [if_pos hk, if_pos hk, if_pos hk]; simp only [sg]; omega
      · rw [if_neg hk, if_neg hk, if_neg hk]; omega
    · show (takeN (upto (leftStep p i) j s).2 j (gt p i j)).getD k 0 = _
      rw [takeN_get (by omega), h4]
      by_cases hk : k = j
      · subst hk
        rw [if_neg (Nat.lt_irrefl _), if_pos rfl, if_pos (Nat.lt_succ_self _)]; omega
      · rw [if_neg hk]
        by_cases hk2 : k < j
        · rw [if_pos hk2, if_pos (by omega)]; omega
        · rw [if_neg hk2, if_neg (by omega)]; omega

theorem leftRow_get (h : Shp a b p) : ∀ i, i ≤ a.length →
    (upto (leftRow p) i (a, b)).1.length = a.length ∧ (upto (leftRow p) i (a, b)).2.length = b.length ∧
    (∀ k, (upto (leftRow p) i (a, b)).1.getD k 0 = ga a k - if k < i then rowS b.length (gt p) k else 0) ∧
    (∀ k, k < b.length → (upto (leftRow p) i (a, b)).2.getD k 0 = ga b k - sg i (fun i => gt p i k))
  | 0, _ => ⟨rfl, rfl, fun k => by simp [upto, ga], fun k _ => by simp [upto, sg, ga]⟩
  | i + 1, hi => by
    obtain ⟨h1, h2, h3, h4⟩ := leftRow_get h i (by omega)
    have e : upto (leftRow p) (i + 1) (a, b) = upto (leftStep p i) b.length (upto (leftRow p) i (a, b)) := by
      show upto (leftStep p i) (p.getD i []).length _ = _
      rw [h.tab.cols i (by omega)]
    obtain ⟨k1, k2, k3, k4⟩ := leftStep_get (p := p) ⟨h1, h2⟩ (i := i) (by omega) b.length (Nat.le_refl _)
    rw [e]
    refine ⟨k1, k2, fun k => ?_, fun k hk => ?_⟩
    · rw [k3, h3]
      by_cases hk : k = i
      · subst hk
        rw [if_neg (Nat.lt_irrefl _), if_pos rfl, if_pos (Nat.lt_succ_self _)]
        show _ - sg b.length (gt p k) = _ - sg b.length (gt p k)
        omega
      · rw [if_neg hk]
        by_cases hk2 : k < i
        · rw [if_pos hk2, if_pos (by omega)]; omega
        · rw [if_neg hk2, if_neg (by omega)]; omega
    · rw [k4, h4 k hk, if_pos hk]
      simp only [sg]; omega

theorem leftV_row (h : Shp a b p) {k : Nat} (hk : k < a.length) : (leftV a b p).1.getD k 0 = ga a k - rowS b.length (gt p) k := by
  unfold leftV
  rw [h.rows, (leftRow_get h a.length (Nat.le_refl _)).2.2.1, if_pos hk]
theorem leftV_col (h : Shp a b p) {k : Nat} (hk : k < b.length) : (leftV a b p).2.getD k 0 = ga b k - colS a.length (gt p) k := by
  unfold leftV
  rw [h.rows, (leftRow_get h a.length (Nat.le_refl _)).2.2.2 k hk]
  rfl
end

/-! ### Distances -/
def far : Int := 1099511627776

/-- What it costs to come to a row or a column, and from where. -/
structure Dst where
  ra : List Int
  rf : List Int
  ca : List Int
  cf : List Int

def startStep (rows : List Int) (i : Nat) (s : List Int × List Int) : List Int × List Int := (if rows.getD i 0 = 0 then s.1.set i far else s.1, s.2.set i (-1))
def startR (rows : List Int) (n k : Nat) : List Int × List Int := upto (startStep rows) k (List.replicate n 0, List.replicate n 0)
def startC (n k : Nat) : List Int := upto (fun j l => l.set j far) k (List.replicate n 0)
def startD (rows : List Int) (n m : Nat) : Dst := ⟨(startR rows n n).1, (startR rows n n).2, startC m m, List.replicate m 0⟩
theorem startR_len (rows : List Int) (n : Nat) : ∀ k, (startR rows n k).1.length = n ∧ (startR rows n k).2.length = n
  | 0 => by simp [startR, upto]
  | k + 1 => by
    have := startR_len rows n k
    simp only [startR, upto, startStep] at this ⊢
    refine ⟨?_, by simpa using this.2⟩
    split
    · simpa using this.1
    · exact this.1
theorem startC_len (n : Nat) : ∀ k, (startC n k).length = n
  | 0 => by simp [startC, upto]
  | k + 1 => by
    have := startC_len n k
    simp only [startC, upto] at this ⊢
    simpa using this

def relaxC (c : Int) (i j : Nat) (s : Dst) : Dst := if s.ra.getD i 0 < far ∧ s.ra.getD i 0 + c < s.ca.getD j 0 then { s with ca := s.ca.set j (s.ra.getD i 0 + c), cf := s.cf.set j (i : Int) } else s
def relaxR (c n : Int) (i j : Nat) (s : Dst) : Dst := if 0 < n ∧ s.ca.getD j 0 < far ∧ s.ca.getD j 0 - c < s.ra.getD i 0 then { s with ra := s.ra.set i (s.ca.getD j 0 - c), rf := s.rf.set i (j : Int) } else s
def relax (c p : List (List Int)) (i j : Nat) (s : Dst) : Dst := relaxR ((c.getD i []).getD j 0) ((p.getD i []).getD j 0) i j (relaxC ((c.getD i []).getD j 0) i j s)
def relaxRow (c p : List (List Int)) (i : Nat) (s : Dst) : Dst := upto (relax c p i) (c.getD i []).length s
def relaxAll (c p : List (List Int)) (s : Dst) : Dst := upto (relaxRow c p) c.length s
def distK (a b : List Int) (c p : List (List Int)) (k : Nat) : Dst := upto (fun _ => relaxAll c p) k (startD (leftV a b p).1 a.length b.length)
def dist (a b : List Int) (c p : List (List Int)) : Dst := distK a b c p (a.length + b.length)

/-- What holds of the lists of distances behind m steps. -/
structure DSt (R C : Nat) (m : Int) (s : Dst) : Prop where
  l1 : s.ra.length = R
  l2 : s.rf.length = R
  l3 : s.ca.length = C
  l4 : s.cf.length = C
  b1 : Bnd (-99 * m) far s.ra
  b2 : Bnd (-1) (C - 1) s.rf
  b3 : Bnd (-99 * m) far s.ca
  b4 : Bnd 0 (R - 1) s.cf
theorem DSt.mono {R C : Nat} {m m' : Int} {s : Dst} (h : DSt R C m s) (hm : m ≤ m') : DSt R C m' s := ⟨h.l1, h.l2, h.l3, h.l4, h.b1.mono (by omega), h.b2, h.b3.mono (by omega), h.b4⟩
theorem DSt.relaxC {R C : Nat} {m : Int} {s : Dst} (h : DSt R C m s) {x : Int} {i j : Nat} (hx : 0 ≤ x ∧ x ≤ 99) (hi : i < R) (hj : j < C) : DSt R C m (relaxC x i j s) := by
  unfold Go.OT.relaxC
  split
  · rename_i hc
    have h1 := h.b1.at (i := i) (by rw [h.l1]; exact hi)
    have h3 := h.b3.at (i := j) (by rw [h.l3]; exact hj)
    exact ⟨h.l1, h.l2, by simp [h.l3], by simp [h.l4], h.b1, h.b2, h.b3.set (by omega), h.b4.set (by omega)⟩
  · exact h
theorem DSt.relaxR {R C : Nat} {m : Int} {s : Dst} (h : DSt R C m s) {x n : Int} {i j : Nat} (hx : 0 ≤ x ∧ x ≤ 99) (hi : i < R) (hj : j < C) : DSt R C (m + 1) (relaxR x n i j s) := by
  unfold Go.OT.relaxR
  split
  · rename_i hc
    have h1 := h.b1.at (i := i) (by rw [h.l1]; exact hi)
    have h3 := h.b3.at (i := j) (by rw [h.l3]; exact hj)
    exact ⟨by simp [h.l1], by simp [h.l2], h.l3, h.l4, (h.b1.mono (by omega)).set (by omega), h.b2.set (by omega), h.b3.mono (by omega), h.b4⟩
  · exact h.mono (by omega)

theorem startR_bnd (rows : List Int) (n : Nat) {C : Nat} (hC : 1 ≤ C) : ∀ k, Bnd 0 far (startR rows n k).1 ∧ Bnd (-1) (C - 1) (startR rows n k).2
  | 0 => by
    refine ⟨fun x hx => ?_, fun x hx => ?_⟩
    · have h0 : x = 0 := (List.mem_replicate.1 hx).2
      unfold far; omega
    · have h0 : x = 0 := (List.mem_replicate.1 hx).2
      omega
  | k + 1 => by
    obtain ⟨h1, h2⟩ := startR_bnd rows n hC k
    have e : startR rows n (k + 1) = startStep rows k (startR rows n k) := rfl
    rw [e, startStep]
    refine ⟨?_, h2.set (by omega)⟩
    show Bnd 0 far (if _ then _ else _)
    split
    · exact h1.set (by unfold far; omega)
    · exact h1
theorem startC_bnd (n : Nat) : ∀ k, Bnd 0 far (startC n k)
  | 0 => fun x hx => by
    have h0 : x = 0 := (List.mem_replicate.1 hx).2
    unfold far; omega
  | k + 1 => (startC_bnd n k).set (by unfold far; omega)
theorem startD_st (rows : List Int) {R C : Nat} (hR : 1 ≤ R) (hC : 1 ≤ C) : DSt R C 0 (startD rows R C) :=
  ⟨(startR_len rows R R).1, (startR_len rows R R).2, startC_len C C, by simp [startD], (startR_bnd rows R hC R).1.mono (by omega), (startR_bnd rows R hC R).2, (startC_bnd C C).mono (by omega), fun x hx => by
    have h0 : x = 0 := (List.mem_replicate.1 hx).2
    omega⟩

section
variable {R C : Nat} {c : List (List Int)} (p : List (List Int))
theorem DSt.row (hc : Tb R C 0 99 c) {m : Int} {s : Dst} (h : DSt R C m s) {i : Nat} (hi : i < R) : ∀ j, j ≤ C → DSt R C (m + j) (upto (relax c p i) j s)
  | 0, _ => by simpa [upto] using h
  | j + 1, hj => by
    have h1 := DSt.row hc h hi j (by omega)
    have h2 := (h1.relaxC (hc.at' i j hi (by omega)) hi (by omega : j < C)).relaxR (n := (p.getD i []).getD j 0) (hc.at' i j hi (by omega)) hi (by omega : j < C)
    exact h2.mono (by omega)
theorem DSt.tab (hc : Tb R C 0 99 c) (hC : C ≤ 6) {m : Int} {s : Dst} (h : DSt R C m s) : ∀ i, i ≤ R → DSt R C (m + 6 * i) (upto (relaxRow c p) i s)
  | 0, _ => by simpa [upto] using h
  | i + 1, hi => by
    have h1 := DSt.row p hc (DSt.tab hc hC h i (by omega)) (i := i) (by omega) C (Nat.le_refl _)
    have e : upto (relaxRow c p) (i + 1) s = upto (relax c p i) C (upto (relaxRow c p) i s) := by
      show upto (relax c p i) (c.getD i []).length _ = _
      rw [hc.cols i (by omega)]
    rw [e]
    exact h1.mono (by omega)
end
theorem distK_st {a b : List Int} {c p : List (List Int)} (hc : Tb a.length b.length 0 99 c) (hp : Shp a b p) : ∀ k : Nat, DSt a.length b.length (36 * (k : Int)) (distK a b c p k)
  | 0 => startD_st _ hp.a5.1 hp.b5.1
  | k + 1 => by
    have h1 := DSt.tab p hc hp.b5.2 (distK_st hc hp k) a.length (Nat.le_refl _)
    have e : distK a b c p (k + 1) = upto (relaxRow c p) a.length (distK a b c p k) := by
      show upto (relaxRow c p) c.length _ = _
      rw [hc.rows]
      rfl
    rw [e]
    have := hp.a5
    exact h1.mono (by omega)

/-! ### The best column, and the chain behind it -/
def bestCol (cols ca : List Int) : Nat → Int
  | 0 => -1
  | j + 1 => if 0 < cols.getD j 0 ∧ ca.getD j 0 < far ∧ (bestCol cols ca j < 0 ∨ ca.getD j 0 < ca.getD (bestCol cols ca j).toNat 0) then (j : Int) else bestCol cols ca j

def addAt (p : List (List Int)) (i j : Nat) (d : Int) : List (List Int) := p.set i ((p.getD i []).set j ((p.getD i []).getD j 0 + d))

/-- The plan behind one step of the chain. -/
def chainStep (rf cf : List Int) (j : Int) (p : List (List Int)) : List (List Int) :=
  let i := (cf.getD j.toNat 0).toNat
  let j' := rf.getD i 0
  if 0 ≤ j' then addAt (addAt p i j.toNat 1) i j'.toNat (-1) else addAt p i j.toNat 1
def chainNext (rf cf : List Int) (j : Int) : Int := rf.getD (cf.getD j.toNat 0).toNat 0

/-- The chain is followed back, at most so many columns. -/
def follow (rf cf : List Int) : Nat → Int → List (List Int) → Option (List (List Int))
  | 0, j, p => if j < 0 then some p else none
  | n + 1, j, p => if j < 0 then some p else follow rf cf n (chainNext rf cf j) (chainStep rf cf j p)

def bestV (a b : List Int) (c p : List (List Int)) : Int := bestCol (leftV a b p).2 (dist a b c p).ca b.length
def nextP (a b : List Int) (c p : List (List Int)) : Option (List (List Int)) := if bestV a b c p < 0 then some p else follow (dist a b c p).rf (dist a b c p).cf (a.length + b.length) (bestV a b c p) p
def nextN (a b : List Int) (c p : List (List Int)) : Int := if bestV a b c p < 0 then 0 else (dist a b c p).ca.getD (bestV a b c p).toNat 0
end Go.OT
