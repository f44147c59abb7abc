/- Links, exchanges of links and what they gain. Conditions: in each contract. -/
import Derived.Test.YtikjejmekfpofaaG2
import Derived.Test.YtikjejmekfpofaaV3
import Derived.Test.YtikjejmekfpofaaP1
namespace Go.Proofs.Ytikjejmekfpofaa
open Go.RowKit Go.VS
set_option linter.unusedSimpArgs false
set_option linter.unusedVariables false

abbrev Pr := Int × Int
@[push_cast] def comCon : Con := ⟨[.dat (.prod .int .int), .dat (.prod .int .int)], fun (x : Pr × Pr × Unit) => InR (x.1.1 - x.2.1.1) ∧ InR (x.1.2 - x.2.1.2), fun (x : Pr × Pr × Unit) => { res := [.val .int (if x.1.1 = x.2.1.1 then x.1.2 - x.2.1.2 else x.1.1 - x.2.1.1)] }⟩

def toP (l : List Pr) (i : Nat) : Pr := l.getD i (0, 0)
@[push_cast] def indexPCon : Con := ⟨[.dat (.sl (.prod .int .int)), .fnc [.prod .int .int] .bool], fun (x : List Pr × ((Pr × Unit → Prop) × (Pr × Unit → Bool)) × Unit) => ∀ y, x.2.1.1 y, fun (x : List Pr × ((Pr × Unit → Prop) × (Pr × Unit → Bool)) × Unit) => { res := [.val .int (findI (fun y => x.2.1.2 (y, ())) x.1)] }⟩
@[push_cast] def containsPCon : Con := ⟨[.dat (.sl (.prod .int .int)), .fnc [.prod .int .int] .bool], fun (x : List Pr × ((Pr × Unit → Prop) × (Pr × Unit → Bool)) × Unit) => ∀ y, x.2.1.1 y, fun (x : List Pr × ((Pr × Unit → Prop) × (Pr × Unit → Bool)) × Unit) => { res := [.val .bool (x.1.any fun y => x.2.1.2 (y, ()))] }⟩
@[push_cast] def findPCon : Con := ⟨[.dat (.sl (.prod .int .int)), .dat (.prod .int .int)], fun _ => True, fun (x : List Pr × Pr × Unit) => { res := [.val .int (findI (fun y => decide (y = x.2.1)) x.1)] }⟩
@[push_cast] def hasPCon : Con := ⟨[.dat (.sl (.prod .int .int)), .dat (.prod .int .int)], fun _ => True, fun (x : List Pr × Pr × Unit) => { res := [.val .bool (decide (x.2.1 ∈ x.1))] }⟩

@[push_cast] def outClo : Clo := ⟨[.sl (.prod .int .int)], [.prod .int .int], .bool, fun _ _ => True, fun (y : List Pr × Unit) (x : Pr × Unit) => !decide (x.1 ∈ y.1)⟩
@[push_cast] def outCon : Con := ⟨[.dat (.prod .int .int), .ptr (.sl (.prod .int .int))], fun _ => True, fun (x : Pr × List Pr × Unit) => { res := [.val .bool (!decide (x.1 ∈ x.2.1))] }⟩
end Go.Proofs.Ytikjejmekfpofaa

namespace Go.Proofs.Ytikjejmekfpofaa
open Go.RowKit Go.VS
set_option linter.unusedSimpArgs false
set_option linter.unusedVariables false

def cAt (c : List (List Int)) (i j : Int) : Int := (c.getD i.toNat []).getD j.toNat 0
/-- A row and a column of the table. -/
structure InT (c : List (List Int)) (x : Pr) : Prop where
  r0 : 0 ≤ x.1
  r1 : x.1 < c.length
  c0 : 0 ≤ x.2
  c1 : x.2 < wid c
theorem inT_iff {c : List (List Int)} {x : Pr} : InT c x ↔ (0 ≤ x.1 ∧ x.1 < c.length ∧ 0 ≤ x.2 ∧ x.2 < wid c) := ⟨fun ⟨a, b, c, d⟩ => ⟨a, b, c, d⟩, fun ⟨a, b, c, d⟩ => ⟨a, b, c, d⟩⟩
instance (c : List (List Int)) (x : Pr) : Decidable (InT c x) := decidable_of_iff _ inT_iff.symm
def lexLt (x y : Pr) : Prop := x.1 < y.1 ∨ x.1 = y.1 ∧ x.2 < y.2
instance (x y : Pr) : Decidable (lexLt x y) := by unfold lexLt; infer_instance

/-- Links of a table, in ascending order. -/
structure Lnk (c : List (List Int)) (l : List Pr) : Prop where
  at' : ∀ i, i < l.length → InT c (toP l i)
  inc : ∀ i, i + 1 < l.length → lexLt (toP l i) (toP l (i + 1))
theorem lnk_iff {c : List (List Int)} {l : List Pr} : Lnk c l ↔ ((∀ i, i < l.length → InT c (toP l i)) ∧ ∀ i, i < l.length - 1 → lexLt (toP l i) (toP l (i + 1))) :=
  ⟨fun ⟨a, b⟩ => ⟨a, fun i hi => b i (by omega)⟩, fun ⟨a, b⟩ => ⟨a, fun i hi => b i (by omega)⟩⟩
instance (c : List (List Int)) (l : List Pr) : Decidable (Lnk c l) := decidable_of_iff _ lnk_iff.symm

def errLinks (c : List (List Int)) (l : List Pr) : Int := if InTab 0 99 c ∧ Lnk c l then 0 else 1
theorem errLinks_0 {c : List (List Int)} {l : List Pr} (h1 : InTab 0 99 c) (h2 : Lnk c l) : errLinks c l = 0 := if_pos ⟨h1, h2⟩
theorem errLinks_1 {c : List (List Int)} {l : List Pr} (h : ¬ (InTab 0 99 c ∧ Lnk c l)) : errLinks c l = 1 := if_neg h
theorem errLinks_01 (c : List (List Int)) (l : List Pr) : errLinks c l = 0 ∨ errLinks c l = 1 := by
  unfold errLinks
  split <;> simp
theorem errLinks_ok {c : List (List Int)} {l : List Pr} (h : errLinks c l = 0) : InTab 0 99 c ∧ Lnk c l := by
  by_cases h2 : InTab 0 99 c ∧ Lnk c l
  · exact h2
  · rw [errLinks_1 h2] at h; omega

@[push_cast] def linksCon : Con := ⟨[.dat (.sl (.sl .int)), .dat (.sl (.prod .int .int))], fun _ => True, fun (x : List (List Int) × List Pr × Unit) => { res := [.val .int (errLinks x.1 x.2.1)] }⟩

/-- The first k links are right. -/
structure LnkK (c : List (List Int)) (l : List Pr) (k : Nat) : Prop where
  at' : ∀ i, i < k → InT c (toP l i)
  inc : ∀ i, i + 1 < k → lexLt (toP l i) (toP l (i + 1))
theorem LnkK.all {c : List (List Int)} {l : List Pr} (h : LnkK c l l.length) : Lnk c l := ⟨h.at', h.inc⟩
theorem LnkK.step {c : List (List Int)} {l : List Pr} {k : Nat} (h : LnkK c l k) (h1 : InT c (toP l k)) (h2 : 0 < k → lexLt (toP l (k - 1)) (toP l k)) : LnkK c l (k + 1) := by
  refine ⟨fun i hi => ?_, fun i hi => ?_⟩
  · rcases Nat.lt_or_ge i k with h3 | h3
    · exact h.at' i h3
    · obtain rfl : i = k := by omega
      exact h1
  · rcases Nat.lt_or_ge (i + 1) k with h3 | h3
    · exact h.inc i h3
    · obtain rfl : k = i + 1 := by omega
      exact h2 (by omega)

@[push_cast] def lexCon : Con := ⟨[.dat (.prod .int .int), .dat (.prod .int .int)], fun _ => True, fun (x : Pr × Pr × Unit) => { res := [.val .bool (decide (lexLt x.1 x.2.1))] }⟩
end Go.Proofs.Ytikjejmekfpofaa

namespace Go.Proofs.Ytikjejmekfpofaa
open Go.RowKit Go.VS
set_option linter.unusedSimpArgs false
set_option linter.unusedVariables false

/-- The difference if a link gets another one's column. -/
def lossV (c : List (List Int)) (r : List Pr) (i j : Nat) : Int := cAt c (toP r i).1 (toP r j).2 - cAt c (toP r i).1 (toP r i).2
def gainK (c : List (List Int)) (r : List Pr) : Nat → Int
  | 0 => 0
  | k + 1 => gainK c r k - lossV c r k ((k + 1) % r.length)

abbrev Exch := List (List Int) × List Pr
structure LossPre (x : Exch) (i j : Int) : Prop where
  tab : InTab 0 99 x.1
  links : ∀ k, k < x.2.length → InT x.1 (toP x.2 k)
  i0 : 0 ≤ i ∧ i < x.2.length
  j0 : 0 ≤ j ∧ j < x.2.length
theorem InTab.cAt {c : List (List Int)} (h : InTab 0 99 c) {x y : Pr} (hx : InT c x) (hy : InT c y) : 0 ≤ Go.Proofs.Ytikjejmekfpofaa.cAt c x.1 y.2 ∧ Go.Proofs.Ytikjejmekfpofaa.cAt c x.1 y.2 ≤ 99 :=
  h.at (by have := hx.r0; have := hx.r1; omega) (by have := hy.c0; have := hy.c1; omega)
theorem InTab.loss {c : List (List Int)} (h : InTab 0 99 c) {r : List Pr} (hr : ∀ k, k < r.length → InT c (toP r k)) {i j : Nat} (hi : i < r.length) (hj : j < r.length) : -99 ≤ lossV c r i j ∧ lossV c r i j ≤ 99 := by
  have h1 := h.cAt (hr i hi) (hr i hi)
  have h2 := h.cAt (hr i hi) (hr j hj)
  unfold lossV
  omega
theorem InTab.gain {c : List (List Int)} (h : InTab 0 99 c) {r : List Pr} (hr : ∀ k, k < r.length → InT c (toP r k)) : ∀ k, k ≤ r.length → -99 * (k : Int) ≤ gainK c r k ∧ gainK c r k ≤ 99 * k
  | 0, _ => by simp [gainK]
  | k + 1, hk => by
    have h1 := InTab.gain h hr k (by omega)
    have h2 := h.loss hr (i := k) (j := (k + 1) % r.length) (by omega) (Nat.mod_lt _ (by omega))
    simp only [gainK]
    omega

@[push_cast] def lossCon : Con := ⟨[.dat (.prod (.sl (.sl .int)) (.sl (.prod .int .int))), .dat .int, .dat .int], fun (x : Exch × Int × Int × Unit) => LossPre x.1 x.2.1 x.2.2.1, fun (x : Exch × Int × Int × Unit) => { res := [.val .int (lossV x.1.1 x.1.2 x.2.1.toNat x.2.2.1.toNat)] }⟩

end Go.Proofs.Ytikjejmekfpofaa

namespace Go.Proofs.Ytikjejmekfpofaa
open Go.RowKit Go.VS
set_option linter.unusedSimpArgs false
set_option linter.unusedVariables false

def errRound (c : List (List Int)) (l r : List Pr) : Int :=
  if ¬ errLinks c l = 0 then errLinks c l else if r.length < 2 ∨ (r.any fun x => !decide (x ∈ l)) = true then 4 else if r.Nodup then 0 else 8
def roundV (c : List (List Int)) (l r : List Pr) : Int := if errRound c l r = 0 then gainK c r r.length else 0
section
variable {c : List (List Int)} {l r : List Pr}
theorem errRound_l (h : ¬ errLinks c l = 0) : errRound c l r = errLinks c l ∧ roundV c l r = 0 := by
  have h1 : errRound c l r = errLinks c l := if_pos h
  exact ⟨h1, if_neg (by rw [h1]; exact h)⟩
theorem errRound_4 (h : errLinks c l = 0) (h2 : r.length < 2 ∨ (r.any fun x => !decide (x ∈ l)) = true) : errRound c l r = 4 ∧ roundV c l r = 0 := by
  have h1 : errRound c l r = 4 := by rw [errRound, if_neg (fun h3 => h3 h), if_pos h2]
  exact ⟨h1, if_neg (by omega)⟩
theorem errRound_8 (h : errLinks c l = 0) (h2 : ¬ (r.length < 2 ∨ (r.any fun x => !decide (x ∈ l)) = true)) (h3 : ¬ r.Nodup) : errRound c l r = 8 ∧ roundV c l r = 0 := by
  have h1 : errRound c l r = 8 := by rw [errRound, if_neg (fun h3 => h3 h), if_neg h2, if_neg h3]
  exact ⟨h1, if_neg (by omega)⟩
theorem errRound_0 (h : errLinks c l = 0) (h2 : ¬ (r.length < 2 ∨ (r.any fun x => !decide (x ∈ l)) = true)) (h3 : r.Nodup) : errRound c l r = 0 ∧ roundV c l r = gainK c r r.length := by
  have h1 : errRound c l r = 0 := by rw [errRound, if_neg (fun h3 => h3 h), if_neg h2, if_pos h3]
  exact ⟨h1, if_pos h1⟩
theorem round_in (h : errLinks c l = 0) (h2 : ¬ (r.length < 2 ∨ (r.any fun x => !decide (x ∈ l)) = true)) : ∀ k, k < r.length → InT c (toP r k) := fun k hk => by
  have h3 : ¬ (r.any fun x => !decide (x ∈ l)) = true := fun h => h2 (.inr h)
  rw [Bool.not_eq_true, List.any_eq_false] at h3
  have h4 := h3 _ (getD_mem (0, 0) hk)
  simp only [Bool.not_eq_true', decide_eq_false_iff_not, Classical.not_not] at h4
  obtain ⟨i, hi, he⟩ := List.getElem_of_mem h4
  have h5 := (errLinks_ok h).2.at' i hi
  unfold toP at h5 ⊢
  rw [List.getD_eq_getElem?_getD, List.getElem?_eq_getElem hi] at h5
  rw [← he]
  exact h5
end
theorem nodup_next {r : List Pr} {k : Nat} (hk : k < r.length) (h : (r.take k).Nodup) (hn : r.getD k (0, 0) ∉ r.take k) : (r.take (k + 1)).Nodup := by
  rw [List.take_succ_eq_append_getElem hk]
  rw [List.getD_eq_getElem?_getD, List.getElem?_eq_getElem hk] at hn
  rw [List.nodup_append]
  refine ⟨h, by simp, fun a ha b hb hab => ?_⟩
  rw [List.mem_singleton] at hb
  subst hb
  subst hab
  exact hn ha
theorem not_nodup {r : List Pr} {k : Nat} (hk : k < r.length) (hn : r.getD k (0, 0) ∈ r.take k) : ¬ r.Nodup := fun h => by
  have h1 : (r.take (k + 1)).Nodup := h.sublist (List.take_sublist _ _)
  rw [List.take_succ_eq_append_getElem hk, List.nodup_append] at h1
  rw [List.getD_eq_getElem?_getD, List.getElem?_eq_getElem hk] at hn
  exact h1.2.2 _ hn _ (List.mem_singleton.2 rfl) rfl

theorem nodup_25 {c : List (List Int)} {r : List Pr} (hc : InTab 0 99 c) (hin : ∀ k, k < r.length → InT c (toP r k)) {k : Nat} (hk : k ≤ r.length) (hn : (r.take k).Nodup) : k ≤ 25 := by
  refine Go.OT.pigeon 25 k (fun i => (toP r i).1.toNat * 5 + (toP r i).2.toNat) (fun i hi => ?_) (fun i j hij hj he => ?_)
  · obtain ⟨h1, h2, h3, h4⟩ := hin i (by omega)
    have h5 := hc.rows
    have h6 := hc.cols
    omega
  · obtain ⟨h1, h2, h3, h4⟩ := hin i (by omega)
    obtain ⟨g1, g2, g3, g4⟩ := hin j (by omega)
    have h5 := hc.rows
    have h6 := hc.cols
    have h7 : toP r i = toP r j := Prod.ext (by omega) (by omega)
    have h8 := List.pairwise_iff_getElem.1 hn i j (by rw [List.length_take]; omega) (by rw [List.length_take]; omega) hij
    apply h8
    rw [List.getElem_take, List.getElem_take]
    unfold toP at h7
    rwa [List.getD_eq_getElem?_getD, List.getD_eq_getElem?_getD, List.getElem?_eq_getElem (by omega), List.getElem?_eq_getElem (by omega)] at h7

@[push_cast] def roundCon : Con := ⟨[.dat (.sl (.sl .int)), .dat (.sl (.prod .int .int)), .dat (.sl (.prod .int .int))], fun _ => True, fun (x : List (List Int) × List Pr × List Pr × Unit) => { res := [.val .int (roundV x.1 x.2.1 x.2.2.1), .val .int (errRound x.1 x.2.1 x.2.2.1)] }⟩

end Go.Proofs.Ytikjejmekfpofaa
