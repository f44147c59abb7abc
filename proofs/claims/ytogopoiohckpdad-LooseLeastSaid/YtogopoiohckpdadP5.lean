/- The document's cheapest plan and prices; the program's prices. No program; no condition. -/
import Derived.Test.YtogopoiohckpdadP4
namespace Go.LC
open Go.OT
set_option linter.unusedSimpArgs false
set_option linter.unusedVariables false

theorem it_congr {f g : Nat → Nat} {N : Nat} (h : ∀ v, v < N → f v = g v ∧ g v < N) {x : Nat} (hx : x < N) : ∀ k, it f k x = it g k x ∧ it g k x < N
  | 0 => ⟨rfl, hx⟩
  | k + 1 => by
    obtain ⟨h1, h2⟩ := it_congr h hx k
    show f (it f k x) = g (it g k x) ∧ g (it g k x) < N
    rw [h1]
    exact h _ h2
theorem Round.congr {w : Nat → Nat → Int} {es : List (Nat × Nat)} {f g : Nat → Nat} {x p : Nat} (h : Round w es g x p) (he : ∀ k, it f k x = it g k x) : Round w es f x p :=
  ⟨h.pos, by rw [he]; exact h.back, fun k a b => by rw [he]; exact h.first k a b, fun m => by rw [he, he]; exact h.edge m, by
    rw [sg_congr p fun k _ => by rw [he, he]]; exact h.neg⟩

theorem last_mem {w : Nat → Nat → Int} {es : List (Nat × Nat)} (hne : ∀ e ∈ es, e.1 ≠ e.2) {n v : Nat} (hn : 1 ≤ n) (hl : (sws w es start n).last = (v : Int)) : ∃ u, (u, v) ∈ es := by
  obtain ⟨h1, _⟩ := swept (w := w) hne n
  rcases h1.lst hn with ⟨h, _⟩ | ⟨v', h, h'⟩
  · rw [h] at hl; omega
  · have : v' = v := by omega
    subst this
    exact ⟨_, (h1.prd v' (by omega)).1⟩

section
variable {a b : List Int} {c p : List (List Int)}

theorem improve_ok (hq : MQ a b c) (hp : Pl a b p) :
    ((lwN c p (a.length + b.length)).last < 0 → Holds a.length b.length (gt c) (fun i => - (lwN c p (a.length + b.length)).far.getD i 0) (fun j => (lwN c p (a.length + b.length)).far.getD (a.length + j) 0) ∧
      Tight a.length b.length (gt c) (gt p) (fun i => - (lwN c p (a.length + b.length)).far.getD i 0) (fun j => (lwN c p (a.length + b.length)).far.getD (a.length + j) 0)) ∧
    (¬ (lwN c p (a.length + b.length)).last < 0 → (lwN c p (a.length + b.length)).last.toNat < a.length + b.length ∧ rx c p (a.length + b.length) < a.length + b.length ∧
      Round (cw a.length (gt c)) (eTo a.length b.length (gt p) a.length) (byF (lwN c p (a.length + b.length)).by') (rx c p (a.length + b.length)) (rp c p (a.length + b.length))) := by
  have ha := hq.a5
  have hb := hq.b5
  have sim := lwK_sim (q := p) hq.hc ha hb.2 (a.length + b.length)
  have hL : lwN c p (a.length + b.length) = lwK c p (a.length + b.length) (a.length + b.length) := rfl
  have hrx : rx c p (a.length + b.length) = it (byF (lwK c p (a.length + b.length) (a.length + b.length)).by') (a.length + b.length) (lwK c p (a.length + b.length) (a.length + b.length)).last.toNat := rfl
  have hrp : rp c p (a.length + b.length) = period (byF (lwK c p (a.length + b.length) (a.length + b.length)).by') (a.length + b.length) (rx c p (a.length + b.length)) := rfl
  rw [hL]
  generalize lwK c p (a.length + b.length) (a.length + b.length) = s at sim hrx hrp ⊢
  have hlast := sim.last
  refine ⟨fun hneg => ?_, fun hpos => ?_⟩
  · rcases last_cases (w := cw a.length (gt c)) (es := eTo a.length b.length (gt p) a.length) e_ne (n := a.length + b.length) (by omega) with h1 | ⟨v, h1⟩
    · have rest := at_rest e_ne (by omega) h1
      refine ⟨fun i j hi hj => ?_, fun i j hi hj h0 => ?_⟩
      · have h2 := rest (i, a.length + j) (mem_e.2 ⟨i, j, hi, hj, .inl rfl⟩)
        dsimp only at h2
        rw [← sim.d _ (by omega), ← sim.d _ (by omega)] at h2
        unfold cw at h2
        rw [if_pos hi, Nat.add_sub_cancel_left] at h2
        dsimp only
        omega
      · have h2 := rest (i, a.length + j) (mem_e.2 ⟨i, j, hi, hj, .inl rfl⟩)
        have h3 := rest (a.length + j, i) (mem_e.2 ⟨i, j, hi, hj, .inr ⟨h0, rfl⟩⟩)
        dsimp only at h2 h3
        rw [← sim.d _ (by omega), ← sim.d _ (by omega)] at h2 h3
        unfold cw at h2 h3
        rw [if_pos hi, Nat.add_sub_cancel_left] at h2
        rw [if_neg (by omega), Nat.add_sub_cancel_left] at h3
        dsimp only
        omega
    · rw [hlast, h1] at hneg; omega
  · rcases last_cases (w := cw a.length (gt c)) (es := eTo a.length b.length (gt p) a.length) e_ne (n := a.length + b.length) (by omega) with h1 | ⟨v, h1⟩
    · rw [hlast, h1] at hpos; omega
    · have hr := round_of (w := cw a.length (gt c)) (es := eTo a.length b.length (gt p) a.length) e_ne e_lt (Nat.le_refl _) (by omega) h1
      obtain ⟨u, hu⟩ := last_mem (w := cw a.length (gt c)) e_ne (by omega) h1
      have hvN := (e_lt _ hu).2
      dsimp only at hvN
      have hv : s.last.toNat = v := by rw [hlast, h1]; rfl
      rw [hv] at hrx
      generalize sws (cw a.length (gt c)) (eTo a.length b.length (gt p) a.length) start (a.length + b.length) = g at sim hr h1 hlast
      have hby : ∀ u, u < a.length + b.length → byF s.by' u = g.b u ∧ g.b u < a.length + b.length := fun u hu => ⟨by unfold byF; rw [sim.b u hu]; rfl, sim.bl u hu⟩
      have hxN : it g.b (a.length + b.length) v < a.length + b.length := (e_lt _ (hr.edge 0)).2
      have hx : rx c p (a.length + b.length) = it g.b (a.length + b.length) v := by rw [hrx]; exact (it_congr hby hvN _).1
      have hit : ∀ k, it (byF s.by') k (it g.b (a.length + b.length) v) = it g.b k (it g.b (a.length + b.length) v) := fun k => (it_congr hby hxN k).1
      have hpp : rp c p (a.length + b.length) = period g.b (a.length + b.length) (it g.b (a.length + b.length) v) := by
        rw [hrp, hx]
        unfold period
        congr 1
        funext k
        rw [hit k]
      rw [hpp, hx, hv]
      exact ⟨hvN, hxN, hr.congr hit⟩
end

/-! ### Until prices prove it -/
def solveF (c : List (List Int)) (N : Nat) : Nat → List (List Int) → List (List Int)
  | 0, p => p
  | n + 1, p => if (lwN c p N).last < 0 then p else solveF c N n (impV c p N)
def costN (R C : Nat) (c p : List (List Int)) : Nat := (cst R C (gt c) (gt p)).toNat
def solveV (a b : List Int) (c : List (List Int)) : List (List Int) := solveF c (a.length + b.length) (costN a.length b.length c (cornV a b) + 1) (cornV a b)
def solveD (a b : List Int) (c : List (List Int)) : List Int := (lwN c (solveV a b c) (a.length + b.length)).far

section
variable {a b : List Int} {c p : List (List Int)}
theorem cst_nn (hq : MQ a b c) (hp : Pl a b p) : 0 ≤ cst a.length b.length (gt c) (gt p) :=
  sg_nonneg _ fun i hi => sg_nonneg _ fun j hj => Int.mul_nonneg (hq.hc.at' i j hi hj).1 (hp.plan.nn i j hi hj)
theorem improve_next (hq : MQ a b c) (hp : Pl a b p) (h : ¬ (lwN c p (a.length + b.length)).last < 0) : Pl a b (impV c p (a.length + b.length)) ∧ costN a.length b.length c (impV c p (a.length + b.length)) < costN a.length b.length c p ∧ 1 ≤ rl c p (a.length + b.length) ∧ rl c p (a.length + b.length) ≤ 200 := by
  obtain ⟨_, _, h3⟩ := (improve_ok hq hp).2 h
  obtain ⟨k1, k2, k3, k4⟩ := hp.turn hq.hb h3
  have e1 : rl c p (a.length + b.length) = leastK a.length p (byF (lwN c p (a.length + b.length)).by') (rx c p (a.length + b.length)) (rp c p (a.length + b.length)) := by
    unfold rl
    rw [hq.hc.rows]
  have e2 : impV c p (a.length + b.length) = turnK a.length p (byF (lwN c p (a.length + b.length)).by') (rx c p (a.length + b.length)) (rl c p (a.length + b.length)) (rp c p (a.length + b.length)) := by
    unfold impV
    rw [hq.hc.rows]
  rw [e1] at e2
  rw [e2, e1]
  have := cst_nn hq k3
  exact ⟨k3, by unfold costN; omega, k1, k2⟩
theorem solveF_ok (hq : MQ a b c) : ∀ (n : Nat) (p : List (List Int)), Pl a b p → costN a.length b.length c p < n → Pl a b (solveF c (a.length + b.length) n p) ∧ (lwN c (solveF c (a.length + b.length) n p) (a.length + b.length)).last < 0
  | 0, p, _, h => absurd h (Nat.not_lt_zero _)
  | n + 1, p, hp, h => by
    by_cases hl : (lwN c p (a.length + b.length)).last < 0
    · have e : solveF c (a.length + b.length) (n + 1) p = p := if_pos hl
      rw [e]
      exact ⟨hp, hl⟩
    · have e : solveF c (a.length + b.length) (n + 1) p = solveF c (a.length + b.length) n (impV c p (a.length + b.length)) := if_neg hl
      obtain ⟨k1, k2, _⟩ := improve_next hq hp hl
      rw [e]
      exact solveF_ok hq n _ k1 (by omega)
/-- The document's plan, and its prices, prove each other. -/
theorem solve_ok (hq : MQ a b c) : Pl a b (solveV a b c) ∧ Holds a.length b.length (gt c) (fun i => - (solveD a b c).getD i 0) (fun j => (solveD a b c).getD (a.length + j) 0) ∧
    Tight a.length b.length (gt c) (gt (solveV a b c)) (fun i => - (solveD a b c).getD i 0) (fun j => (solveD a b c).getD (a.length + j) 0) := by
  obtain ⟨h1, h2⟩ := solveF_ok hq _ _ hq.corner (Nat.lt_succ_self _)
  obtain ⟨h3, h4⟩ := (improve_ok hq h1).1 h2
  exact ⟨h1, h3, h4⟩
end
end Go.LC
