/- Value semantics, part V: arguments that a statement hands in, as data. Over any program; no condition. -/
import Derived.Test.YtaldpinkkgdklaaVsU
namespace Go.VS
open Go.RowKit
set_option linter.unusedSimpArgs false
set_option linter.unusedVariables false

/-- What is told of a slice of numbers that came in. -/
def IsRow (w : World) (a : Option Addr) (len cap : Nat) (zs : List Int) : Prop :=
  (a = none ∧ len = 0 ∧ cap = 0 ∧ zs = []) ∨
  ∃ x, a = some x ∧ len ≤ cap ∧ cap ≤ maxLen ∧ zs.length = cap ∧ ∀ i, i < zs.length → w.cell? (x.add i) = some (.int .i64 (zs.getD i 0))

theorem rep_ints {w : World} {a : Option Addr} {len cap : Nat} {zs : List Int} (h : IsRow w a len cap zs) : vrep w (fun _ => True) (.sl .int) (zs.take len) (.slice a len cap) := by
  rcases h with ⟨rfl, rfl, rfl, rfl⟩ | ⟨x, rfl, hl, hm, hz, hcell⟩
  · exact ⟨[.slice none 0 0], ⟨none, 0, rfl, Nat.le_refl _, Nat.zero_le _, fun i hi => by simp at hi⟩, rfl⟩
  · have hlen : (zs.take len).length = len := by rw [List.length_take]; omega
    refine ⟨[.slice (some x) len cap], ⟨some x, cap, by rw [hlen], by rw [hlen]; exact hl, hm, fun i hi => ?_⟩, rfl⟩
    have hi' : i < zs.length := by rw [hlen] at hi; omega
    have hc := hcell i hi'
    obtain ⟨b, off, spot⟩ := x
    have hspot : spot = none := by simpa [Addr.add] using World.cell?_spot (hcell 0 (by omega))
    subst hspot
    rw [Addr.add_lit] at hc
    have hb : b < w.heap.size := by
      rcases Nat.lt_or_ge b w.heap.size with h1 | h1
      · exact h1
      · have : w.heap[b]? = none := Array.getElem?_eq_none h1
        simp [World.cell?, this] at hc
    refine ⟨b, off, [.int .i64 (zs.getD i 0)], rfl, trivial, hb, ?_, fun j v hj => ?_⟩
    · simp [pers, List.getD_eq_getElem?_getD, hi']
    · cases j with
      | zero =>
        simp only [List.getElem?_cons_zero, Option.some.injEq] at hj
        subst hj
        simpa [Sh.size] using hc
      | succ j => simp at hj

/-- A function that has a contract, called with plain data. -/
theorem calls_of_spec {P : Program} {f : FuncId} {c : Con} (h : FnSpec P f c) (w : World) (x : TupA c.as) (vs : List Value) (hn : lends c.as = 0) (hr : paramRoots 0 c.as x = []) (hpre : c.pre x)
    (ha : bvsRep ⟨P, fun _ => False, w, fun _ => True, 0, fun _ => undef⟩ gam0 w (paramBVs 0 c.as x) vs) (hout : c.post x = { res := [.val .bool true] }) :
    Calls P f vs.toArray w fun e w' => e = .returned (.bool true) ∧ Below w.heap.size w w' := by
  refine (h.run ⟨P, fun _ => False, w, fun _ => True, 0, fun _ => undef⟩ gam0 x vs hpre ⟨rfl, hn.symm, fun r hr => absurd hr (Nat.not_lt_zero r), fun k l hk => by simp [gam0] at hk, ha, fun p hp => by rw [hr] at hp; simp at hp⟩).mono fun e w' hx => ?_
  obtain ⟨v, γ', rfl, ⟨⟨ids, us, rfl, hres, _⟩, _, _⟩, hk⟩ := hx
  rw [hout] at hres
  obtain ⟨u, us', rfl, hu, _, h2⟩ := hres
  subst h2
  obtain ⟨cs, h3, h4⟩ := hu
  simp only [pers] at h3
  subst h3
  have hk' : Keep (fun _ => False) w w' := hk
  exact ⟨by rw [show packRes [u] = u from rfl, h4]; rfl, hk'.below⟩

end Go.VS
