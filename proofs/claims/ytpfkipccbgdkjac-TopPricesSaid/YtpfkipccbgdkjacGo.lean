/- Copies of tables, plans turned, sums of plans. Conditions: in each contract. -/
import Derived.Test.YtpfkipccbgdkjacGn
namespace Go.Proofs.Ytpfkipccbgdkjac
open Go.RowKit Go.VS
set_option linter.unusedSimpArgs false
set_option linter.unusedVariables false

def Small (p : List (List Int)) : Prop := p.length ≤ 1000 ∧ ∀ r ∈ p, r.length ≤ 1000
theorem Small.row {p : List (List Int)} (h : Small p) {i : Nat} (hi : i < p.length) : (p.getD i []).length ≤ 1000 := h.2 _ (getD_mem [] hi)
theorem InPlan.small {p : List (List Int)} (h : InPlan p) : Small p := ⟨by have := h.rows; omega, fun r hr => by rw [h.len r hr]; have := h.cols; omega⟩

@[push_cast] def copyCon : Con := ⟨[.dat (.sl (.sl .int))], fun (x : List (List Int) × Unit) => Small x.1, fun (x : List (List Int) × Unit) => { res := [.own (.deep 22 3 .int x.1)] }⟩

end Go.Proofs.Ytpfkipccbgdkjac
