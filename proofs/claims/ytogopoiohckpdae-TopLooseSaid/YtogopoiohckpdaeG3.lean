/- Sums of rows and columns, best answers to prices. Conditions: in each contract. -/
import Derived.Test.YtogopoiohckpdaeG1
import Derived.Test.YtogopoiohckpdaeG2
namespace Go.Proofs.Ytogopoiohckpdae
open Go.RowKit Go.VS
set_option linter.unusedSimpArgs false
set_option linter.unusedVariables false

/-- The list of f 0 .. f (n - 1). -/
def tbl {α : Type} (n : Nat) (f : Nat → α) : List α := (List.range n).map f

theorem tbl_len {α : Type} (n : Nat) (f : Nat → α) : (tbl n f).length = n := by simp [tbl]
theorem tbl_get {α : Type} {n i : Nat} (f : Nat → α) (d : α) (h : i < n) : (tbl n f).getD i d = f i := by simp [tbl, List.getD_eq_getElem?_getD, h]
theorem tbl_congr {α : Type} {n : Nat} {f g : Nat → α} (h : ∀ i, i < n → f i = g i) : tbl n f = tbl n g := List.map_congr_left fun i hi => h i (List.mem_range.1 hi)
theorem tbl_succ {α : Type} (n : Nat) (f : Nat → α) : tbl (n + 1) f = tbl n f ++ [f n] := by simp [tbl, List.range_succ]
theorem tbl_set {α : Type} {n i : Nat} (f : Nat → α) (v : α) : (tbl n f).set i v = tbl n (fun j => if j = i then v else f j) := by
  apply List.ext_getElem?
  intro j
  rw [List.getElem?_set]
  simp only [tbl, List.length_map, List.length_range, List.getElem?_map]
  by_cases hj : j < n
  · by_cases h : i = j
    · subst h; simp [hj]
    · have h' : ¬ j = i := fun e => h e.symm
      simp [h, h', hj]
  · have : (List.range n)[j]? = none := by simp; omega
    by_cases h : i = j
    · subst h; simp [hj]
    · simp [h, hj]
end Go.Proofs.Ytogopoiohckpdae

namespace Go.Proofs.Ytogopoiohckpdae
open Go.RowKit Go.VS
set_option linter.unusedSimpArgs false
set_option linter.unusedVariables false

theorem inL_at {n lo hi : Int} {l : List Int} (h : InL n lo hi l) : ∀ j, j < l.length → lo ≤ l.getD j 0 ∧ l.getD j 0 ≤ hi := fun j hj => h.2 _ (getD_mem 0 hj)

section
variable {c : List (List Int)} {ps : List Int}
end

end Go.Proofs.Ytogopoiohckpdae

namespace Go.Proofs.Ytogopoiohckpdae
open Go.RowKit Go.VS
set_option linter.unusedSimpArgs false
set_option linter.unusedVariables false

end Go.Proofs.Ytogopoiohckpdae
