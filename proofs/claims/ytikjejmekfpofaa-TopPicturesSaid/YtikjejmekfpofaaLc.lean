/- The types of this program's lists, tables, pairs, prices and jobs. No condition. -/
import Derived.Test.YtikjejmekfpofaaRows
import Derived.Test.YtikjejmekfpofaaV3
import Derived.KernelRfl
namespace Go.Proofs.Ytikjejmekfpofaa
open Go.RowKit Go.VS
set_option linter.unusedSimpArgs false
set_option linter.unusedVariables false

def tab : Tab where
  sh := [(3, .int), (4, .bool), (22, .sl .int), (26, .int), (25, .sl (.sl .int)), (69, .sl .int), (35, .prod (.sl .int) (.sl .int)), (24, .prod (.sl .int) (.sl .int))]
  el := [(22, 3), (25, 22), (69, 26)]
  plain := [3, 4, 22, 26, 25, 69, 57, 43]
  fld := [(35, [(0, 22), (1, 22)]), (24, [(0, 22), (1, 22)])]
  ones := [(35, 2), (24, 2)]
  fns := [57, 43]

theorem tabOK : TabOK Try.prog tab := by
  refine ⟨by kernel_rfl, by kernel_rfl, by kernel_rfl, by kernel_rfl, by kernel_rfl, by kernel_rfl, by kernel_rfl, ?_, by kernel_rfl, by kernel_rfl, by kernel_rfl, by kernel_rfl, by kernel_rfl⟩
  intro t ht w a b c d x y
  have hm := sh_mem ht
  simp only [tab, List.mem_cons, List.not_mem_nil, Prod.mk.injEq, reduceCtorEq, and_false, or_false, false_or, and_true, Sh.prod.injEq] at hm
  all_goals exact hm.elim
theorem shI : tab.lang.sh 3 = some (.int) := rfl
theorem shB : tab.lang.sh 4 = some (.bool) := rfl
theorem shS : tab.lang.sh 22 = some (.sl .int) := rfl
theorem shE : tab.lang.sh 26 = some (.int) := rfl
theorem shT : tab.lang.sh 25 = some (.sl (.sl .int)) := rfl
theorem shLE : tab.lang.sh 69 = some (.sl .int) := rfl
theorem shPr : tab.lang.sh 35 = some (.prod (.sl .int) (.sl .int)) := rfl
theorem shPi : tab.lang.sh 24 = some (.prod (.sl .int) (.sl .int)) := rfl
theorem onPr : tab.lang.ones 35 = some 2 := rfl
theorem fdPr0 : tab.lang.fld 35 0 = some (2, 0) := rfl
theorem fdPr1 : tab.lang.fld 35 1 = some (2, 1) := rfl
theorem onPi : tab.lang.ones 24 = some 2 := rfl
theorem fdPi0 : tab.lang.fld 24 0 = some (2, 0) := rfl
theorem fdPi1 : tab.lang.fld 24 1 = some (2, 1) := rfl
theorem elS : tab.lang.el 22 = 3 := rfl
theorem elT : tab.lang.el 25 = 22 := rfl
theorem elLE : tab.lang.el 69 = 26 := rfl
theorem fnF1 : tab.lang.fnT 57 = true := rfl
theorem shF1 : tab.lang.sh 57 = none := rfl
theorem plF1 : tab.lang.plain 57 = true := rfl
theorem fnF2 : tab.lang.fnT 43 = true := rfl
theorem shF2 : tab.lang.sh 43 = none := rfl
theorem plF2 : tab.lang.plain 43 = true := rfl
theorem plI : tab.lang.plain 3 = true := rfl
theorem plB : tab.lang.plain 4 = true := rfl
theorem plS : tab.lang.plain 22 = true := rfl
theorem plE : tab.lang.plain 26 = true := rfl
theorem plT : tab.lang.plain 25 = true := rfl
theorem plLE : tab.lang.plain 69 = true := rfl
def know (l : List (Nat × Con)) (k : List (Nat × Clo)) (r : List (Nat × Rec) := []) (own : List Nat := []) : Know := ⟨tab.lang, fun f => lk none (l.map fun p => (p.1, some p.2)) f, fun f => lk none (k.map fun p => (p.1, some p.2)) f, fun f => lk none (r.map fun p => (p.1, some p.2)) f, own⟩

theorem know_ok {l : List (Nat × Con)} {k : List (Nat × Clo)} {r : List (Nat × Rec)} {own : List Nat} (h1 : ∀ p ∈ l, FnSpec Try.prog p.1 p.2) (h2 : ∀ p ∈ k, CloSpec Try.prog p.1 p.2) (h3 : ∀ p ∈ r, RecSpec Try.prog p.1 p.2) : KnowOK Try.prog (know l k r own) :=
  ⟨tabOK.lang, fun f c hf => by obtain ⟨v, h3, rfl⟩ := lk_inv (g := fun x : Con => x) hf; exact h1 _ h3, fun f c hf => by obtain ⟨v, h3, rfl⟩ := lk_inv (g := fun x : Clo => x) hf; exact h2 _ h3, fun f c hf => by obtain ⟨v, h4, rfl⟩ := lk_inv (g := fun x : Rec => x) hf; exact h3 _ h4⟩

theorem know_G (l : List (Nat × Con)) (k : List (Nat × Clo)) (r : List (Nat × Rec)) (own : List Nat) : (know l k r own).G = tab.lang := rfl
theorem know_T (l : List (Nat × Con)) (k : List (Nat × Clo)) (r : List (Nat × Rec)) (own : List Nat) (f : FuncId) : (know l k r own).T f = lk none (l.map fun p => (p.1, some p.2)) f := rfl
theorem know_K (l : List (Nat × Con)) (k : List (Nat × Clo)) (r : List (Nat × Rec)) (own : List Nat) (f : FuncId) : (know l k r own).K f = lk none (k.map fun p => (p.1, some p.2)) f := rfl
theorem know_R (l : List (Nat × Con)) (k : List (Nat × Clo)) (r : List (Nat × Rec)) (own : List Nat) (f : FuncId) : (know l k r own).R f = lk none (r.map fun p => (p.1, some p.2)) f := rfl
theorem know_own (l : List (Nat × Con)) (k : List (Nat × Clo)) (r : List (Nat × Rec)) (own : List Nat) : (know l k r own).own = own := rfl

attribute [push_cast] shI shB shS shE shT shLE shPr shPi onPr fdPr0 fdPr1 onPi fdPi0 fdPi1 elS elT elLE fnF1 shF1 plF1 fnF2 shF2 plF2 plI plB plS plE plT plLE know_G know_T know_K know_R know_own
end Go.Proofs.Ytikjejmekfpofaa
