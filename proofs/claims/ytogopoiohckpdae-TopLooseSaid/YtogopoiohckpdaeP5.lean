/- The document's cheapest plan and prices; the program's prices. No program; no condition. -/
import Derived.Test.YtogopoiohckpdaeP3
namespace Go.LC
open Go.OT
set_option linter.unusedSimpArgs false
set_option linter.unusedVariables false

theorem Round.congr {w : Nat → Nat → Int} {es : List (Nat × Nat)} {f g : Nat → Nat} {x p : Nat} (h : Round w es g x p) (he : ∀ k, it f k x = it g k x) : Round w es f x p :=
  ⟨h.pos, by rw [he]; exact h.back, fun k a b => by rw [he]; exact h.first k a b, fun m => by rw [he, he]; exact h.edge m, by
    rw [sg_congr p fun k _ => by rw [he, he]]; exact h.neg⟩

section
variable {a b : List Int} {c p : List (List Int)}

end

/-! ### Until prices prove it -/
section
variable {a b : List Int} {c p : List (List Int)}
end
end Go.LC
