/- Value semantics, fourth part: a state weakened behind a function's body. Over any program; no condition. -/
import Derived.Test.YtikjejmekfpofaaV3
namespace Go.VS
open Go.RowKit
set_option linter.unusedSimpArgs false
set_option linter.unusedVariables false

/-- What a body leaves may be weakened before it is handed back: slices in structs are given away. -/
theorem tri_post {C : Ctx} {N : Nat} {Q : Exit → AS → Prop} {s : AS} {c : Code} (h : tri C N c (fun e s => ∃ t, Weak C.nl s t ∧ Q e t) s) : tri C N c Q s :=
  ⟨fun γ a w hr hN => wp_mono (h.run γ a w hr hN) fun _ _ _ ⟨_, _, h1, h2, t, h3, h4⟩ => ⟨t, _, h3.rel h1, h2, h4⟩⟩

/-! ### What is lent: a list, a table -/
def flatI : RC → List Int
  | .flat _ s xs => (tryCast (.sl s) (.sl .int) xs).getD []
  | _ => []
@[push_cast] theorem flatI_flat (e : TypeId) (l : List Int) : flatI (.flat e .int l) = l := by
  simp only [flatI, tryCast_self, Option.getD_some]
def deepJ : RC → List (List Int)
  | .deep _ _ s xss => (tryCast (.sl (.sl s)) (.sl (.sl .int)) xss).getD []
  | _ => []
@[push_cast] theorem deepJ_deep (e e2 : TypeId) (p : List (List Int)) : deepJ (.deep e e2 .int p) = p := by
  simp only [deepJ, tryCast_self, Option.getD_some]
end Go.VS
