/- Rounds of exchanges: found, or there are prices; with prices a plan is a cheapest one, with a round there is a cheaper one. No program; no condition. -/
import Derived.Test.YtpfkipccbgdkjacP5
namespace Go.LC
open Go.OT
set_option linter.unusedSimpArgs false
set_option linter.unusedVariables false

def cyS (w : Nat → Nat → Int) (i j : Nat) (s : LL) : LL := if i ≠ j ∧ s.far.getD i 0 + w i j < s.far.getD j 0 then ⟨s.far.set j (s.far.getD i 0 + w i j), s.by'.set j (i : Int), (j : Int)⟩ else s
def cyRow (w : Nat → Nat → Int) (n i : Nat) (s : LL) : LL := upto (cyS w i) n s
def cyAll (w : Nat → Nat → Int) (n : Nat) (s : LL) : LL := upto (cyRow w n) n { s with last := -1 }
def cyK (w : Nat → Nat → Int) (n k : Nat) : LL := upto (fun _ => cyAll w n) k ⟨List.replicate n 0, List.replicate n 0, -1⟩

def xAt (i j : Nat) : List (Nat × Nat) := if i = j then [] else [(i, j)]
def xRow (i : Nat) : Nat → List (Nat × Nat)
  | 0 => []
  | j + 1 => xRow i j ++ xAt i j
def xTo (n : Nat) : Nat → List (Nat × Nat)
  | 0 => []
  | i + 1 => xTo n i ++ xRow i n
theorem mem_xAt {e : Nat × Nat} {i j : Nat} : e ∈ xAt i j ↔ i ≠ j ∧ e = (i, j) := by
  unfold xAt
  by_cases h : i = j
  · simp [h]
  · simp [h]
theorem mem_xRow {e : Nat × Nat} {i : Nat} : ∀ (n : Nat), e ∈ xRow i n ↔ ∃ j, j < n ∧ e ∈ xAt i j
  | 0 => by simp [xRow]
  | n + 1 => by
    simp only [xRow, List.mem_append, mem_xRow n]
    constructor
    · rintro (⟨j, hj, h⟩ | h)
      · exact ⟨j, by omega, h⟩
      · exact ⟨n, by omega, h⟩
    · rintro ⟨j, hj, h⟩
      rcases Nat.lt_or_ge j n with h2 | h2
      · exact .inl ⟨j, h2, h⟩
      · obtain rfl : j = n := by omega
        exact .inr h
theorem mem_xTo {n : Nat} {e : Nat × Nat} : ∀ (m : Nat), e ∈ xTo n m ↔ ∃ i j, i < m ∧ j < n ∧ e ∈ xAt i j
  | 0 => by simp [xTo]
  | m + 1 => by
    simp only [xTo, List.mem_append, mem_xTo m, mem_xRow]
    constructor
    · rintro (⟨i, j, hi, hj, h⟩ | ⟨j, hj, h⟩)
      · exact ⟨i, j, by omega, hj, h⟩
      · exact ⟨m, j, by omega, hj, h⟩
    · rintro ⟨i, j, hi, hj, h⟩
      rcases Nat.lt_or_ge i m with h2 | h2
      · exact .inl ⟨i, j, h2, hj, h⟩
      · obtain rfl : i = m := by omega
        exact .inr ⟨j, hj, h⟩
theorem mem_x {n : Nat} {e : Nat × Nat} : e ∈ xTo n n ↔ e.1 < n ∧ e.2 < n ∧ e.1 ≠ e.2 := by
  rw [mem_xTo]
  constructor
  · rintro ⟨i, j, hi, hj, h⟩
    obtain ⟨h1, rfl⟩ := mem_xAt.1 h
    exact ⟨hi, hj, h1⟩
  · rintro ⟨hi, hj, h⟩; exact ⟨e.1, e.2, hi, hj, mem_xAt.2 ⟨h, rfl⟩⟩
theorem x_ne {n : Nat} : ∀ e ∈ xTo n n, e.1 ≠ e.2 := fun e he => (mem_x.1 he).2.2
theorem x_lt {n : Nat} : ∀ e ∈ xTo n n, e.1 < n ∧ e.2 < n := fun e he => ⟨(mem_x.1 he).1, (mem_x.1 he).2.1⟩

section
variable {n : Nat} {w : Nat → Nat → Int}
theorem Sim.cyS {m : Int} {s : LL} {g : LS} (h : Sim n m s g) {i j : Nat} (hi : i < n) (hj : j < n) (hw : -99 ≤ w i j ∧ w i j ≤ 99) (r : Nat) : Sim n (m + 1) (cyS w i j s) ((xAt i j).foldl (lw w r) g) := by
  have e1 := h.d i hi
  have e2 := h.d j hj
  unfold LC.cyS xAt
  by_cases hij : i = j
  · rw [if_neg (fun h2 => h2.1 hij), if_pos hij]
    exact h.mono (by omega)
  · rw [if_neg hij]
    show Sim n (m + 1) _ (lw w r g (i, j))
    unfold lw
    dsimp only
    rw [← e1, ← e2]
    by_cases hx : s.far.getD i 0 + w i j < s.far.getD j 0
    · rw [if_pos ⟨hij, hx⟩, if_pos hx]
      have b1 := h.bnd i hi
      have b2 := h.bnd j hj
      have := h.set (u := i) (v := j) (w := w i j) hi hj r (x := s.far.getD i 0 + w i j) (by rw [e1]) (by omega)
      rw [← e1] at this
      exact this
    · rw [if_neg (fun h2 => hx h2.2), if_neg hx]
      exact h.mono (by omega)
theorem Sim.cyRow (hw : ∀ i j, i < n → j < n → -99 ≤ w i j ∧ w i j ≤ 99) {m : Int} {s : LL} {g : LS} (h : Sim n m s g) {i : Nat} (hi : i < n) (r : Nat) : ∀ j, j ≤ n → Sim n (m + j) (upto (LC.cyS w i) j s) ((xRow i j).foldl (lw w r) g)
  | 0, _ => h.mono (by omega)
  | j + 1, hj => by
    have h1 := (Sim.cyRow hw h hi r j (by omega)).cyS (j := j) hi (by omega) (hw i j hi (by omega)) r
    show Sim n _ (LC.cyS w i j (upto (LC.cyS w i) j s)) ((xRow i j ++ xAt i j).foldl _ _)
    rw [List.foldl_append]
    exact h1.mono (by omega)
theorem Sim.cyTab (hw : ∀ i j, i < n → j < n → -99 ≤ w i j ∧ w i j ≤ 99) (hn : n ≤ 25) {m : Int} {s : LL} {g : LS} (h : Sim n m s g) (r : Nat) : ∀ i, i ≤ n → Sim n (m + 25 * i) (upto (LC.cyRow w n) i s) ((xTo n i).foldl (lw w r) g)
  | 0, _ => h.mono (by omega)
  | i + 1, hi => by
    have h1 := (Sim.cyTab hw hn h r i (by omega)).cyRow hw (i := i) (by omega) r n (Nat.le_refl _)
    show Sim n _ (LC.cyRow w n i (upto (LC.cyRow w n) i s)) ((xTo n i ++ xRow i n).foldl _ _)
    rw [List.foldl_append]
    exact h1.mono (by omega)
theorem Sim.begin {m : Int} {s : LL} {g : LS} (h : Sim n m s g) : Sim n m { s with last := -1 } { g with last := -1 } := ⟨h.l1, h.l2, h.d, h.b, h.bl, rfl, h.bnd⟩
theorem cyK_sim (hw : ∀ i j, i < n → j < n → -99 ≤ w i j ∧ w i j ≤ 99) (hn : 1 ≤ n ∧ n ≤ 25) : ∀ k : Nat, Sim n (625 * (k : Int)) (cyK w n k) (sws w (xTo n n) LC.start k)
  | 0 => by
    have e : ∀ v, (List.replicate n (0 : Int)).getD v 0 = 0 := fun v => by
      rw [List.getD_eq_getElem?_getD, List.getElem?_replicate]; split <;> rfl
    exact ⟨by simp [cyK, upto], by simp [cyK, upto], fun v _ => e v, fun v _ => e v, fun v _ => by show 0 < n; omega, rfl, fun v _ => by have e2 : (cyK w n 0).far.getD v 0 = 0 := e v; omega⟩
  | k + 1 => by
    have h1 := Sim.cyTab hw hn.2 (cyK_sim hw hn k).begin (k + 1) n (Nat.le_refl _)
    show Sim n _ (upto (LC.cyRow w n) n { cyK w n k with last := -1 }) _
    exact h1.mono (by omega)

def cyB (w : Nat → Nat → Int) (n : Nat) : Nat → Nat := byF (cyK w n n).by'
def cyX (w : Nat → Nat → Int) (n : Nat) : Nat := it (cyB w n) n (cyK w n n).last.toNat
def cyP (w : Nat → Nat → Int) (n : Nat) : Nat := period (cyB w n) n (cyX w n)
/-- The round that is found. -/
def cyL (w : Nat → Nat → Int) (n : Nat) : List Int := if (cyK w n n).last < 0 then [] else ((List.range (cyP w n)).map fun m => ((it (cyB w n) m (cyX w n) : Nat) : Int)).reverse

structure CyR (w : Nat → Nat → Int) (n : Nat) : Prop where
  last : (cyK w n n).last.toNat < n
  x : cyX w n < n
  b : ∀ v, v < n → cyB w n v < n
  round : Round w (xTo n n) (cyB w n) (cyX w n) (cyP w n)
theorem cy_ok (hw : ∀ i j, i < n → j < n → -99 ≤ w i j ∧ w i j ≤ 99) (hn : n ≤ 25) :
    ((cyK w n n).last < 0 → ∃ d : Nat → Int, ∀ i j, i < n → j < n → i ≠ j → d j ≤ d i + w i j) ∧ (¬ (cyK w n n).last < 0 → 1 ≤ n ∧ CyR w n) := by
  rcases Nat.eq_zero_or_pos n with h0 | h0
  · subst h0
    exact ⟨fun _ => ⟨fun _ => 0, fun i j hi _ _ => absurd hi (Nat.not_lt_zero i)⟩, fun h => absurd (by decide : (-1 : Int) < 0) h⟩
  have sim := cyK_sim hw ⟨h0, hn⟩ n
  have hB : cyB w n = byF (cyK w n n).by' := rfl
  have hX : cyX w n = it (cyB w n) n (cyK w n n).last.toNat := rfl
  have hP : cyP w n = period (cyB w n) n (cyX w n) := rfl
  have hlast := sim.last
  refine ⟨fun hneg => ?_, fun hpos => ⟨h0, ?_⟩⟩
  · rcases last_cases (w := w) (es := xTo n n) x_ne (n := n) h0 with h1 | ⟨v, h1⟩
    · have rest := at_rest x_ne h0 h1
      exact ⟨_, fun i j hi hj hij => rest (i, j) (mem_x.2 ⟨hi, hj, hij⟩)⟩
    · rw [hlast, h1] at hneg; omega
  · rcases last_cases (w := w) (es := xTo n n) x_ne (n := n) h0 with h1 | ⟨v, h1⟩
    · rw [hlast, h1] at hpos; omega
    · have hr := round_of (w := w) (es := xTo n n) x_ne x_lt (Nat.le_refl _) h0 h1
      obtain ⟨u, hu⟩ := last_mem (w := w) x_ne h0 h1
      have hvN := (x_lt _ hu).2
      dsimp only at hvN
      have hv : (cyK w n n).last.toNat = v := by rw [hlast, h1]; rfl
      rw [hv] at hX
      generalize sws w (xTo n n) start n = g at sim hr h1 hlast
      have hby : ∀ u, u < n → cyB w n u = g.b u ∧ g.b u < n := fun u hu => ⟨by rw [hB]; unfold byF; rw [sim.b u hu]; rfl, sim.bl u hu⟩
      have hxN : it g.b n v < n := (x_lt _ (hr.edge 0)).2
      have hx : cyX w n = it g.b n v := by rw [hX]; exact (it_congr hby hvN _).1
      have hit : ∀ k, it (cyB w n) k (it g.b n v) = it g.b k (it g.b n v) := fun k => (it_congr hby hxN k).1
      have hpp : cyP w n = period g.b n (it g.b n v) := by
        rw [hP, hx]
        unfold period
        congr 1
        funext k
        rw [hit k]
      refine ⟨by rw [hv]; exact hvN, by rw [hx]; exact hxN, fun u hu => by obtain ⟨k1, k2⟩ := hby u hu; omega, ?_⟩
      rw [hpp, hx]
      exact hr.congr hit

theorem CyR.it_lt (h : CyR w n) : ∀ m, it (cyB w n) m (cyX w n) < n
  | 0 => h.x
  | m + 1 => h.b _ (CyR.it_lt h m)
theorem CyR.two (h : CyR w n) : 2 ≤ cyP w n := by
  have h1 := h.round.pos
  apply Classical.byContradiction
  intro hn
  have h2 : cyP w n = 1 := by omega
  have h3 := h.round.back
  rw [h2] at h3
  have h4 := x_ne _ (h.round.edge 0)
  exact h4 h3
theorem CyR.short (h : CyR w n) : cyP w n ≤ n := pigeon n _ (fun i => it (cyB w n) i (cyX w n)) (fun i _ => h.it_lt i) fun i j hij hj => h.round.inj hij hj

theorem sg_rev (g : Nat → Int) : ∀ p, sg p (fun k => g (p - 1 - k)) = sg p g
  | 0 => rfl
  | p + 1 => by
    have e : sg (p + 1) (fun k => g (p + 1 - 1 - k)) = g p + sg p (fun k => g (p - 1 - k)) := by
      have hs : ∀ (q : Nat) (f : Nat → Int), sg (q + 1) f = f 0 + sg q (fun k => f (k + 1)) := by
        intro q f
        induction q with
        | zero => simp only [sg]; omega
        | succ q ih => rw [sg, ih]; simp only [sg]; omega
      rw [hs]
      congr 1
      refine sg_congr p fun k hk => ?_
      show g (p + 1 - 1 - (k + 1)) = g (p - 1 - k)
      rw [show p + 1 - 1 - (k + 1) = p - 1 - k by omega]
    rw [e, sg_rev g p]
    simp only [sg]
    omega

/-- The k-th of the round, forward. -/
def cyF (w : Nat → Nat → Int) (n k : Nat) : Nat := it (cyB w n) (cyP w n - 1 - k) (cyX w n)
theorem cyL_len (h : ¬ (cyK w n n).last < 0) : (cyL w n).length = cyP w n := by
  unfold cyL
  rw [if_neg h]
  simp
theorem cyL_nil (h : (cyK w n n).last < 0) : cyL w n = [] := if_pos h
theorem cyL_at (h : ¬ (cyK w n n).last < 0) {k : Nat} (hk : k < cyP w n) : (cyL w n).getD k 0 = (cyF w n k : Int) := by
  unfold cyL cyF
  rw [if_neg h, List.getD_eq_getElem?_getD, List.getElem?_reverse (by simpa using hk)]
  simp only [List.length_map, List.length_range]
  rw [List.getElem?_map, List.getElem?_range (by omega)]
  rfl
theorem CyR.inj (h : CyR w n) {i j : Nat} (hij : i < j) (hj : j < cyP w n) : cyF w n i ≠ cyF w n j := fun e => h.round.inj (i := cyP w n - 1 - j) (j := cyP w n - 1 - i) (by omega) (by omega) e.symm
theorem CyR.lt (h : CyR w n) (k : Nat) : cyF w n k < n := h.it_lt _
theorem CyR.neg (h : CyR w n) : sg (cyP w n) (fun k => w (cyF w n k) (cyF w n ((k + 1) % cyP w n))) < 0 := by
  have h0 := h.round.neg
  have h2 := h.two
  have hb := h.round.back
  obtain ⟨p, hp⟩ : ∃ p, cyP w n = p + 1 := ⟨cyP w n - 1, by omega⟩
  have e : sg (cyP w n) (fun k => w (cyF w n k) (cyF w n ((k + 1) % cyP w n))) = sg (cyP w n) (fun m => w (it (cyB w n) (m + 1) (cyX w n)) (it (cyB w n) m (cyX w n))) := by
    unfold cyF
    rw [hp] at hb ⊢
    simp only [sg]
    congr 1
    · rw [← sg_rev (fun m => w (it (cyB w n) (m + 1) (cyX w n)) (it (cyB w n) m (cyX w n))) p]
      refine sg_congr p fun k hk => ?_
      rw [Nat.mod_eq_of_lt (by omega), show p + 1 - 1 - k = p - 1 - k + 1 by omega, show p + 1 - 1 - (k + 1) = p - 1 - k by omega]
    · rw [Nat.mod_self, show p + 1 - 1 - p = 0 by omega, show p + 1 - 1 - 0 = p by omega, hb]
      rfl
  rw [e]
  exact h0
end

/-! ### Exchanges in a plan -/
/-- What is lost if the k-th link gets the column of the m-th. -/
def xl (c : Nat → Nat → Int) (lr lc : Nat → Nat) (k m : Nat) : Int := c (lr k) (lc m) - c (lr k) (lc k)
section
variable {R C n : Nat} {a b : Nat → Int} {c p : Nat → Nat → Int} {lr lc : Nat → Nat}

theorem at_zero (hp : IsPlan R C a b p) {i : Nat} (hi : i < R) (h : ∀ j, j < C → ¬ 0 < p i j) : a i = 0 := by
  rw [← hp.row i hi]
  refine Eq.trans (sg_congr C fun j hj => ?_) (sg_zero C)
  have := hp.nn i j hi hj
  have := h j hj
  show p i j = 0
  omega
theorem at_zeroC (hp : IsPlan R C a b p) {j : Nat} (hj : j < C) (h : ∀ i, i < R → ¬ 0 < p i j) : b j = 0 := by
  rw [← hp.col j hj]
  refine Eq.trans (sg_congr R fun i hi => ?_) (sg_zero R)
  have := hp.nn i j hi hj
  have := h i hi
  show p i j = 0
  omega
theorem zero_at (hp : IsPlan R C a b p) {i j : Nat} (hi : i < R) (hj : j < C) (h : a i = 0) : p i j = 0 :=
  sg_all0 C (fun j hj => hp.nn i j hi hj) (by have := hp.row i hi; rw [h] at this; exact this) j hj
theorem zero_atC (hp : IsPlan R C a b p) {i j : Nat} (hi : i < R) (hj : j < C) (h : b j = 0) : p i j = 0 :=
  sg_all0 R (f := fun i => p i j) (fun i hi => hp.nn i j hi hj) (by have := hp.col j hj; rw [h] at this; exact this) i hi

open Classical in
/-- If no exchange of links has a gain, a plan on these links is a cheapest one. -/
theorem exch_rest {d : Nat → Int} (hl : ∀ k, k < n → lr k < R ∧ lc k < C) (hd : ∀ i j, i < n → j < n → i ≠ j → d j ≤ d i + xl c lr lc i j) (hp : IsPlan R C a b p)
    (hs : ∀ i j, i < R → j < C → 0 < p i j → ∃ k, k < n ∧ lr k = i ∧ lc k = j) {q : Nat → Nat → Int} (hq : IsPlan R C a b q) : cst R C c p ≤ cst R C c q := by
  have hd' : ∀ i j, i < n → j < n → d j ≤ d i + xl c lr lc i j := fun i j hi hj => by
    by_cases hij : i = j
    · subst hij; unfold xl; omega
    · exact hd i j hi hj hij
  have hu : ∃ u : Nat → Int, ∀ k, k < n → u (lr k) = c (lr k) (lc k) - d k := by
    refine ⟨fun i => if h : ∃ k, k < n ∧ lr k = i then c i (lc h.choose) - d h.choose else 0, fun k hk => ?_⟩
    have h : ∃ k', k' < n ∧ lr k' = lr k := ⟨k, hk, rfl⟩
    dsimp only
    rw [dif_pos h]
    obtain ⟨h1, h2⟩ := h.choose_spec
    have k1 := hd' _ _ h1 hk
    have k2 := hd' _ _ hk h1
    unfold xl at k1 k2
    rw [h2] at k1
    omega
  have hv : ∃ v : Nat → Int, ∀ k, k < n → v (lc k) = d k := by
    refine ⟨fun j => if h : ∃ k, k < n ∧ lc k = j then d h.choose else 0, fun k hk => ?_⟩
    have h : ∃ k', k' < n ∧ lc k' = lc k := ⟨k, hk, rfl⟩
    dsimp only
    rw [dif_pos h]
    obtain ⟨h1, h2⟩ := h.choose_spec
    have k1 := hd' _ _ h1 hk
    have k2 := hd' _ _ hk h1
    unfold xl at k1 k2
    rw [h2] at k1 k2
    omega
  obtain ⟨u, hu⟩ := hu
  obtain ⟨v, hv⟩ := hv
  let c' : Nat → Nat → Int := fun i j => if (∃ k, k < n ∧ lr k = i) ∧ ∃ k, k < n ∧ lc k = j then c i j else u i + v j
  have same : ∀ {q : Nat → Nat → Int}, IsPlan R C a b q → cst R C c q = cst R C c' q := fun {q} hq => by
    refine sg_congr R fun i hi => sg_congr C fun j hj => ?_
    dsimp only [c']
    by_cases h : (∃ k, k < n ∧ lr k = i) ∧ ∃ k, k < n ∧ lc k = j
    · rw [if_pos h]
    · have h0 : q i j = 0 := by
        by_cases h1 : ∃ k, k < n ∧ lr k = i
        · refine zero_atC hq hi hj (at_zeroC hp hj fun i' hi' h2 => h ⟨h1, ?_⟩)
          obtain ⟨k, k1, k2, k3⟩ := hs i' j hi' hj h2
          exact ⟨k, k1, k3⟩
        · refine zero_at hq hi hj (at_zero hp hi fun j' hj' h2 => h1 ?_)
          obtain ⟨k, k1, k2, k3⟩ := hs i j' hi hj' h2
          exact ⟨k, k1, k2⟩
      rw [h0, Int.mul_zero, Int.mul_zero]
  have hold : Holds R C c' u v := fun i j hi hj => by
    dsimp only [c']
    by_cases h : (∃ k, k < n ∧ lr k = i) ∧ ∃ k, k < n ∧ lc k = j
    · rw [if_pos h]
      obtain ⟨⟨k1, h1, rfl⟩, k2, h2, rfl⟩ := h
      have := hd' k1 k2 h1 h2
      unfold xl at this
      rw [hu k1 h1, hv k2 h2]
      omega
    · rw [if_neg h]; exact Int.le_refl _
  have tight : Tight R C c' p u v := fun i j hi hj h0 => by
    obtain ⟨k, hk, rfl, rfl⟩ := hs i j hi hj h0
    dsimp only [c']
    rw [if_pos ⟨⟨k, hk, rfl⟩, k, hk, rfl⟩, hu k hk, hv k hk]
    omega
  rw [same hp, same hq]
  exact hp.least hold tight hq

/-- A plan with the first links of a round exchanged. -/
def xch (lr lc f : Nat → Nat) (r : Nat) (p : Nat → Nat → Int) : Nat → Nat → Nat → Int
  | 0 => p
  | k + 1 => bump (bump (xch lr lc f r p k) (lr (f k)) (lc (f k)) (-1)) (lr (f k)) (lc (f ((k + 1) % r))) 1
variable {f : Nat → Nat} {r : Nat}
theorem xch_row (hl : ∀ k, k < n → lr k < R ∧ lc k < C) (hf : ∀ k, k < r → f k < n) : ∀ k, k ≤ r → ∀ i, rowS C (xch lr lc f r p k) i = rowS C p i
  | 0, _, _ => rfl
  | k + 1, hk, i => by
    have h1 := (hl _ (hf k (by omega))).2
    have h2 := (hl _ (hf ((k + 1) % r) (Nat.mod_lt _ (by omega)))).2
    simp only [xch]
    rw [rowS_bump _ h2, rowS_bump _ h1, xch_row hl hf k (by omega)]
    split <;> omega
theorem xch_col (hl : ∀ k, k < n → lr k < R ∧ lc k < C) (hf : ∀ k, k < r → f k < n) : ∀ k, k ≤ r → ∀ j, colS R (xch lr lc f r p k) j = colS R p j - (if j = lc (f 0) then 1 else 0) + (if j = lc (f (k % r)) then 1 else 0)
  | 0, _, j => by
    simp only [xch, Nat.zero_mod]
    omega
  | k + 1, hk, j => by
    have h1 := (hl _ (hf k (by omega))).1
    simp only [xch]
    rw [colS_bump _ h1, colS_bump _ h1, xch_col hl hf k (by omega), Nat.mod_eq_of_lt (show k < r by omega)]
    split <;> split <;> split <;> omega
theorem xch_cst (hl : ∀ k, k < n → lr k < R ∧ lc k < C) (hf : ∀ k, k < r → f k < n) : ∀ k, k ≤ r → cst R C c (xch lr lc f r p k) = cst R C c p + sg k (fun k => xl c lr lc (f k) (f ((k + 1) % r)))
  | 0, _ => by simp only [xch, sg]; omega
  | k + 1, hk => by
    obtain ⟨h1, h3⟩ := hl _ (hf k (by omega))
    have h2 := (hl _ (hf ((k + 1) % r) (Nat.mod_lt _ (by omega)))).2
    simp only [xch, sg]
    rw [cst_bump _ _ h1 h2, cst_bump _ _ h1 h3, xch_cst hl hf k (by omega)]
    unfold xl
    omega
open Classical in
theorem xch_ge (hlj : ∀ i j, i < n → j < n → lr i = lr j → lc i = lc j → i = j) (hf : ∀ k, k < r → f k < n) (hfi : ∀ i j, i < j → j < r → f i ≠ f j) : ∀ k, k ≤ r → ∀ i j, p i j - (if ∃ m, m < k ∧ lr (f m) = i ∧ lc (f m) = j then 1 else 0) ≤ xch lr lc f r p k i j
  | 0, _, i, j => by
    simp only [xch]
    rw [if_neg (fun h => by obtain ⟨m, hm, _⟩ := h; omega)]
    omega
  | k + 1, hk, i, j => by
    have ih := xch_ge hlj hf hfi k (by omega) i j
    simp only [xch, bump]
    by_cases h : i = lr (f k) ∧ j = lc (f k)
    · rw [if_pos h, if_pos ⟨k, by omega, h.1.symm, h.2.symm⟩]
      rw [if_neg (fun h2 => by
        obtain ⟨m, hm, e1, e2⟩ := h2
        exact hfi m k hm (by omega) (hlj _ _ (hf m (by omega)) (hf k (by omega)) (by rw [e1, h.1]) (by rw [e2, h.2])))] at ih
      split <;> omega
    · rw [if_neg h]
      have e : (∃ m, m < k + 1 ∧ lr (f m) = i ∧ lc (f m) = j) ↔ ∃ m, m < k ∧ lr (f m) = i ∧ lc (f m) = j := by
        constructor
        · rintro ⟨m, hm, e1, e2⟩
          rcases Nat.lt_or_ge m k with h3 | h3
          · exact ⟨m, h3, e1, e2⟩
          · obtain rfl : m = k := by omega
            exact absurd ⟨e1.symm, e2.symm⟩ h
        · rintro ⟨m, hm, e1⟩; exact ⟨m, by omega, e1⟩
      by_cases h5 : ∃ m, m < k ∧ lr (f m) = i ∧ lc (f m) = j
      · rw [if_pos h5] at ih
        rw [if_pos (e.2 h5)]
        split <;> omega
      · rw [if_neg h5] at ih
        rw [if_neg fun h6 => h5 (e.1 h6)]
        split <;> omega
/-- A round of links, exchanged, makes a plan of another cost. -/
theorem exch_round (hl : ∀ k, k < n → lr k < R ∧ lc k < C) (hlj : ∀ i j, i < n → j < n → lr i = lr j → lc i = lc j → i = j) (hp : IsPlan R C a b p) (hs : ∀ k, k < n → 0 < p (lr k) (lc k))
    (hf : ∀ k, k < r → f k < n) (hfi : ∀ i j, i < j → j < r → f i ≠ f j) : ∃ q, IsPlan R C a b q ∧ cst R C c q = cst R C c p + sg r (fun k => xl c lr lc (f k) (f ((k + 1) % r))) := by
  refine ⟨xch lr lc f r p r, ⟨fun i j hi hj => ?_, fun i hi => ?_, fun j hj => ?_⟩, xch_cst hl hf r (Nat.le_refl _)⟩
  · have h1 := xch_ge (p := p) hlj hf hfi r (Nat.le_refl _) i j
    have h2 := hp.nn i j hi hj
    split at h1
    · rename_i h
      obtain ⟨m, hm, rfl, rfl⟩ := h
      have := hs _ (hf m hm)
      omega
    · omega
  · rw [xch_row hl hf r (Nat.le_refl _)]; exact hp.row i hi
  · rw [xch_col hl hf r (Nat.le_refl _), Nat.mod_self, hp.col j hj]; omega
/-- Where no exchange has a gain, rounds have none. -/
theorem round_rest {w : Nat → Nat → Int} {d : Nat → Int} (hd : ∀ i j, i < n → j < n → i ≠ j → d j ≤ d i + w i j) (hw : ∀ i, i < n → 0 ≤ w i i) (hf : ∀ k, k < r → f k < n) : 0 ≤ sg r (fun k => w (f k) (f ((k + 1) % r))) := by
  have key : ∀ k, k ≤ r → d (f (k % r)) - d (f 0) ≤ sg k (fun k => w (f k) (f ((k + 1) % r))) := by
    intro k
    induction k with
    | zero => intro _; simp only [sg, Nat.zero_mod]; omega
    | succ k ih =>
      intro hk
      have h1 := ih (by omega)
      rw [Nat.mod_eq_of_lt (show k < r by omega)] at h1
      simp only [sg]
      have h2 := hf k (by omega)
      have h3 := hf ((k + 1) % r) (Nat.mod_lt _ (by omega))
      by_cases he : f k = f ((k + 1) % r)
      · have := hw _ h2
        rw [← he]
        omega
      · have := hd _ _ h2 h3 he
        omega
  have := key r (Nat.le_refl _)
  rw [Nat.mod_self] at this
  omega
end
end Go.LC
