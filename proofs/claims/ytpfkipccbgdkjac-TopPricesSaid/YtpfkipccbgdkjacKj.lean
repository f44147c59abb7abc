/- Which links are cyclic, by the program and by the document; exchanges with a gain. Conditions: in each contract. -/
import Derived.Test.YtpfkipccbgdkjacKi
namespace Go.Proofs.Ytpfkipccbgdkjac
open Go.RowKit Go.VS Go.OT Go.LC
set_option linter.unusedSimpArgs false
set_option linter.unusedVariables false

def lr (l : List Pr) (k : Nat) : Nat := (toP l k).1.toNat
def lc (l : List Pr) (k : Nat) : Nat := (toP l k).2.toNat
def CycP (c : List (List Int)) (l : List Pr) : Prop := (cyK (lossV c l) l.length l.length).last < 0
instance (c : List (List Int)) (l : List Pr) : Decidable (CycP c l) := by unfold CycP; infer_instance

theorem lexLt_trans {x y z : Pr} (h1 : lexLt x y) (h2 : lexLt y z) : lexLt x z := by unfold lexLt at *; omega
theorem Lnk.lt {c : List (List Int)} {l : List Pr} (h : Lnk c l) {i : Nat} : ∀ k, i + k + 1 < l.length → lexLt (toP l i) (toP l (i + k + 1))
  | 0, hk => h.inc i hk
  | k + 1, hk => lexLt_trans (Lnk.lt h k (by omega)) (h.inc (i + k + 1) (by omega))
section
variable {c : List (List Int)} {l : List Pr}
theorem Lnk.ne (h : Lnk c l) {i j : Nat} (hij : i < j) (hj : j < l.length) : toP l i ≠ toP l j := fun e => by
  have := h.lt (i := i) (j - i - 1) (by omega)
  rw [show i + (j - i - 1) + 1 = j by omega, e] at this
  unfold lexLt at this
  omega
theorem Lnk.inj (h : Lnk c l) {i j : Nat} (hi : i < l.length) (hj : j < l.length) (h1 : lr l i = lr l j) (h2 : lc l i = lc l j) : i = j := by
  obtain ⟨a1, a2, a3, a4⟩ := h.at' i hi
  obtain ⟨b1, b2, b3, b4⟩ := h.at' j hj
  unfold lr lc at *
  have e : toP l i = toP l j := Prod.ext (by omega) (by omega)
  rcases Nat.lt_trichotomy i j with h3 | h3 | h3
  · exact absurd e (h.ne h3 hj)
  · exact h3
  · exact absurd e.symm (h.ne h3 hi)
theorem Lnk.in' (h : Lnk c l) {k : Nat} (hk : k < l.length) : lr l k < c.length ∧ lc l k < wid c := by
  obtain ⟨a1, a2, a3, a4⟩ := h.at' k hk
  unfold lr lc
  omega
theorem Lnk.le25 (hc : InTab 0 99 c) (h : Lnk c l) : l.length ≤ 25 := by
  refine pigeon 25 l.length (fun i => lr l i * 5 + lc l i) (fun i hi => ?_) (fun i j hij hj he => ?_)
  · have h1 := h.in' hi
    have h5 := hc.rows
    have h6 := hc.cols
    omega
  · have h1 := h.in' (k := i) (by omega)
    have h2 := h.in' hj
    have h5 := hc.rows
    have h6 := hc.cols
    have := h.inj (i := i) (j := j) (by omega) hj (by omega) (by omega)
    omega
theorem loss_xl (c : List (List Int)) (l : List Pr) : lossV c l = xl (gt c) (lr l) (lc l) := rfl
theorem Lnk.w (hc : InTab 0 99 c) (h : Lnk c l) : ∀ i j, i < l.length → j < l.length → -99 ≤ lossV c l i j ∧ lossV c l i j ≤ 99 := fun i j hi hj => hc.loss h.at' hi hj

/-- Links are cyclic exactly if a plan on them is a cheapest one. -/
theorem cyc_iff {R C : Nat} (hc : InTab 0 99 c) (h : Lnk c l) (hR : R = c.length) (hC : C = wid c) {a b : Nat → Int} {p : Nat → Nat → Int} (hp : IsPlan R C a b p)
    (hs : ∀ i j, i < R → j < C → (0 < p i j ↔ ∃ k, k < l.length ∧ lr l k = i ∧ lc l k = j)) : CycP c l ↔ ∀ q, IsPlan R C a b q → cst R C (gt c) p ≤ cst R C (gt c) q := by
  obtain ⟨o1, o2⟩ := cy_ok (h.w hc) (h.le25 hc)
  have hin : ∀ k, k < l.length → lr l k < R ∧ lc l k < C := fun k hk => by rw [hR, hC]; exact h.in' hk
  constructor
  · intro hn q hq
    obtain ⟨d, hd⟩ := o1 hn
    exact exch_rest hin hd hp (fun i j hi hj h0 => (hs i j hi hj).1 h0) hq
  · intro hall
    apply Classical.byContradiction
    intro hn
    obtain ⟨_, hr⟩ := o2 hn
    obtain ⟨q, hq, he⟩ := exch_round (c := gt c) (f := cyF (lossV c l) l.length) (r := cyP (lossV c l) l.length) hin (fun i j hi hj h1 h2 => h.inj hi hj h1 h2) hp (fun k hk => (hs _ _ (hin k hk).1 (hin k hk).2).2 ⟨k, hk, rfl, rfl⟩) (fun k _ => hr.lt k) (fun i j hij hj => hr.inj hij hj)
    have h1 := hall q hq
    have h2 := hr.neg
    rw [he] at h1
    rw [loss_xl] at h2
    rw [loss_xl] at h1
    omega

/-! ### Gains -/
theorem gain_sg (c : List (List Int)) (r : List Pr) : ∀ k, gainK c r k = - sg k (fun k => lossV c r k ((k + 1) % r.length))
  | 0 => rfl
  | k + 1 => by
    simp only [gainK, sg, gain_sg c r k]
    omega
/-- A round that is a list of numbers of links. -/
theorem gain_of {r : List Pr} {f : Nat → Nat} (hr : ∀ k, k < r.length → toP r k = toP l (f k)) : gainK c r r.length = - sg r.length (fun k => lossV c l (f k) (f ((k + 1) % r.length))) := by
  rw [gain_sg]
  congr 1
  refine sg_congr _ fun k hk => ?_
  have h1 := hr k hk
  have h2 := hr ((k + 1) % r.length) (Nat.mod_lt _ (by omega))
  unfold lossV
  rw [h1, h2]
/-- Where links are cyclic, no round has a gain. -/
theorem cyc_gain (hc : InTab 0 99 c) (h : Lnk c l) (hn : CycP c l) {r : List Pr} (hr : ∀ x ∈ r, x ∈ l) : gainK c r r.length ≤ 0 := by
  obtain ⟨o1, _⟩ := cy_ok (h.w hc) (h.le25 hc)
  obtain ⟨d, hd⟩ := o1 hn
  have hex : ∀ k, k < r.length → ∃ m, m < l.length ∧ toP r k = toP l m := fun k hk => by
    obtain ⟨m, hm, he⟩ := List.getElem_of_mem (hr _ (getD_mem (0, 0) hk))
    refine ⟨m, hm, ?_⟩
    have e : toP l m = l[m] := by
      unfold toP
      rw [List.getD_eq_getElem?_getD, List.getElem?_eq_getElem hm]
      rfl
    exact he.symm.trans e.symm
  have hf : ∃ f : Nat → Nat, ∀ k, k < r.length → f k < l.length ∧ toP r k = toP l (f k) := by
    refine ⟨fun k => if h : k < r.length then (hex k h).choose else 0, fun k hk => ?_⟩
    dsimp only
    rw [dif_pos hk]
    exact (hex k hk).choose_spec
  obtain ⟨f, hf⟩ := hf
  rw [gain_of (l := l) (f := f) fun k hk => (hf k hk).2]
  have := round_rest (w := lossV c l) hd (fun i hi => by unfold lossV; omega) (f := f) (r := r.length) fun k hk => (hf k hk).1
  omega
/-- The round that is found. -/
def roundL (c : List (List Int)) (l : List Pr) : List Pr := (cyL (lossV c l) l.length).map fun i => l.getD i.toNat (0, 0)
theorem roundL_nil (h : CycP c l) : roundL c l = [] := by
  unfold roundL
  rw [cyL_nil h]
  rfl
theorem roundL_len (h : ¬ CycP c l) : (roundL c l).length = cyP (lossV c l) l.length := by
  unfold roundL
  rw [List.length_map]
  exact cyL_len h
theorem roundL_at (h : ¬ CycP c l) {k : Nat} (hk : k < cyP (lossV c l) l.length) : toP (roundL c l) k = toP l (cyF (lossV c l) l.length k) := by
  unfold roundL toP
  rw [map_tbl _ 0, tbl_get _ _ (by rw [cyL_len h]; exact hk), cyL_at h hk]
  rfl
theorem roundL_ok (hc : InTab 0 99 c) (h : Lnk c l) (hn : ¬ CycP c l) : errRound c l (roundL c l) = 0 ∧ 0 < roundV c l (roundL c l) ∧ (roundL c l).length ≠ 0 := by
  obtain ⟨_, o2⟩ := cy_ok (h.w hc) (h.le25 hc)
  obtain ⟨_, hr⟩ := o2 hn
  have h2 := hr.two
  have hl := roundL_len hn
  have hin : ∀ x ∈ roundL c l, x ∈ l := fun x hx => by
    obtain ⟨k, hk, rfl⟩ := List.getElem_of_mem hx
    have e := roundL_at hn (k := k) (by omega)
    unfold toP at e
    rw [List.getD_eq_getElem?_getD, List.getElem?_eq_getElem hk] at e
    show (roundL c l)[k] ∈ l
    have e2 : (roundL c l)[k] = l.getD (cyF (lossV c l) l.length k) (0, 0) := e
    rw [e2]
    exact getD_mem _ (hr.lt k)
  have hnd : (roundL c l).Nodup := by
    rw [List.nodup_iff_pairwise_ne, List.pairwise_iff_getElem]
    intro i j hi hj hij he
    have e1 := roundL_at hn (k := i) (by omega)
    have e2 := roundL_at hn (k := j) (by omega)
    have e3 : toP (roundL c l) i = toP (roundL c l) j := by
      unfold toP
      rw [List.getD_eq_getElem?_getD, List.getD_eq_getElem?_getD, List.getElem?_eq_getElem hi, List.getElem?_eq_getElem hj, he]
    rw [e1, e2] at e3
    refine hr.inj hij (by omega) (h.inj (hr.lt i) (hr.lt j) ?_ ?_)
    · unfold lr; rw [e3]
    · unfold lc; rw [e3]
  have hany : ¬ ((roundL c l).length < 2 ∨ ((roundL c l).any fun x => !decide (x ∈ l)) = true) := by
    rintro (h3 | h3)
    · omega
    · obtain ⟨x, hx, h4⟩ := List.any_eq_true.1 h3
      simp [hin x hx] at h4
  obtain ⟨e1, e2⟩ := errRound_0 (errLinks_0 hc h) hany hnd
  refine ⟨e1, ?_, by omega⟩
  rw [e2, gain_of (l := l) (f := cyF (lossV c l) l.length) fun k hk => roundL_at hn (by omega), hl]
  have := hr.neg
  omega
theorem cyL_len0 (hc : InTab 0 99 c) (h : Lnk c l) : (cyL (lossV c l) l.length).length = 0 ↔ CycP c l := by
  obtain ⟨_, o2⟩ := cy_ok (h.w hc) (h.le25 hc)
  constructor
  · intro h1
    apply Classical.byContradiction
    intro hn
    obtain ⟨_, hr⟩ := o2 hn
    have h2 := hr.two
    rw [cyL_len hn] at h1
    omega
  · intro h1
    rw [cyL_nil h1]
    rfl
theorem cyL_mem (hc : InTab 0 99 c) (h : Lnk c l) {k : Nat} (hk : k < (cyL (lossV c l) l.length).length) : 0 ≤ (cyL (lossV c l) l.length).getD k 0 ∧ (cyL (lossV c l) l.length).getD k 0 < l.length := by
  obtain ⟨_, o2⟩ := cy_ok (h.w hc) (h.le25 hc)
  by_cases hn : CycP c l
  · rw [cyL_nil hn] at hk
    exact absurd hk (Nat.not_lt_zero k)
  · obtain ⟨_, hr⟩ := o2 hn
    rw [cyL_len hn] at hk
    rw [cyL_at hn hk]
    have := hr.lt k
    omega
end
end Go.Proofs.Ytpfkipccbgdkjac
