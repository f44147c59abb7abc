/- A plan is improved along a round, if there is one. Conditions: in each contract. -/
import Derived.Test.YtogopoiohckpdaeHc
namespace Go.Proofs.Ytogopoiohckpdae
open Go.RowKit Go.VS Go.OT Go.LC
set_option linter.unusedSimpArgs false
set_option linter.unusedVariables false


/-- What is known of the marks of a round. -/
structure Rd (c p : List (List Int)) (N : Nat) (f : Nat → Nat) (by0 : List Int) (x P : Nat) : Prop where
  by' : ∀ v, v < N → by0.getD v 0 = ((f v : Nat) : Int) ∧ f v < N
  lt : ∀ m, it f m x < N
  rnd : Round (cw c.length (gt c)) (eTo c.length (wid c) (gt p) c.length) f x P
  le : P ≤ N
theorem Rd.next {c p : List (List Int)} {N : Nat} {f : Nat → Nat} {by0 : List Int} {x P : Nat} (h : Rd c p N f by0 x P) (m : Nat) : by0.getD (it f m x) 0 = ((it f (m + 1) x : Nat) : Int) := (h.by' _ (h.lt m)).1
end Go.Proofs.Ytogopoiohckpdae
