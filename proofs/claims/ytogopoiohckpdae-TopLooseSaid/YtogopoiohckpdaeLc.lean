/- The types of this program's lists, tables, pairs, prices and jobs. No condition. -/
import Derived.Test.YtogopoiohckpdaeRows
import Derived.Test.YtogopoiohckpdaeV3
import Derived.KernelRfl
namespace Go.Proofs.Ytogopoiohckpdae
open Go.RowKit Go.VS
set_option linter.unusedSimpArgs false
set_option linter.unusedVariables false

def tab : Tab where
  sh := [(3, .int), (4, .bool), (22, .sl .int), (30, .int), (23, .sl (.sl .int)), (85, .sl .int), (27, .prod (.sl .int) (.sl .int)), (25, .prod (.sl .int) (.prod (.sl .int) (.sl (.sl .int)))), (54, .prod (.sl (.sl .int)) (.sl .int)), (29, .prod .int (.prod (.sl (.sl .int)) (.prod (.sl .int) (.sl .int))))]
  el := [(22, 3), (23, 22), (85, 30)]
  plain := [3, 4, 22, 30, 23, 85, 84, 58]
  fld := [(27, [(0, 22), (1, 22)]), (25, [(0, 22), (1, 22), (2, 23)]), (54, [(0, 23), (1, 22)]), (29, [(0, 3), (1, 23), (2, 27)])]
  ones := [(27, 2), (25, 3), (54, 2)]
  fns := [84, 58]

theorem tabOK : TabOK Try.prog tab := by
  refine ⟨by kernel_rfl, by kernel_rfl, by kernel_rfl, by kernel_rfl, by kernel_rfl, by kernel_rfl, by kernel_rfl, ?_, by kernel_rfl, by kernel_rfl⟩
  intro t ht w a b c d x y
  have hm := sh_mem ht
  simp only [tab, List.mem_cons, List.not_mem_nil, Prod.mk.injEq, reduceCtorEq, and_false, or_false, false_or, and_true, Sh.prod.injEq] at hm
  all_goals exact hm.elim
theorem shI : tab.lang.sh 3 = some (.int) := rfl
theorem shB : tab.lang.sh 4 = some (.bool) := rfl
theorem shS : tab.lang.sh 22 = some (.sl .int) := rfl
theorem shE : tab.lang.sh 30 = some (.int) := rfl
theorem shT : tab.lang.sh 23 = some (.sl (.sl .int)) := rfl
theorem shLE : tab.lang.sh 85 = some (.sl .int) := rfl
theorem shPr : tab.lang.sh 27 = some (.prod (.sl .int) (.sl .int)) := rfl
theorem shJ : tab.lang.sh 25 = some (.prod (.sl .int) (.prod (.sl .int) (.sl (.sl .int)))) := rfl
theorem shFo : tab.lang.sh 54 = some (.prod (.sl (.sl .int)) (.sl .int)) := rfl
theorem shOf : tab.lang.sh 29 = some (.prod .int (.prod (.sl (.sl .int)) (.prod (.sl .int) (.sl .int)))) := rfl
theorem onPr : tab.lang.ones 27 = some 2 := rfl
theorem fdPr0 : tab.lang.fld 27 0 = some (2, 0) := rfl
theorem fdPr1 : tab.lang.fld 27 1 = some (2, 1) := rfl
theorem onJ : tab.lang.ones 25 = some 3 := rfl
theorem fdJ0 : tab.lang.fld 25 0 = some (3, 0) := rfl
theorem fdJ1 : tab.lang.fld 25 1 = some (3, 1) := rfl
theorem fdJ2 : tab.lang.fld 25 2 = some (3, 2) := rfl
theorem onFo : tab.lang.ones 54 = some 2 := rfl
theorem fdFo0 : tab.lang.fld 54 0 = some (2, 0) := rfl
theorem fdFo1 : tab.lang.fld 54 1 = some (2, 1) := rfl
theorem fdOf0 : tab.lang.fld 29 0 = some (3, 0) := rfl
theorem fdOf1 : tab.lang.fld 29 1 = some (3, 1) := rfl
theorem fdOf2 : tab.lang.fld 29 2 = some (3, 2) := rfl
theorem elS : tab.lang.el 22 = 3 := rfl
theorem elT : tab.lang.el 23 = 22 := rfl
theorem elLE : tab.lang.el 85 = 30 := rfl
theorem fnF1 : tab.lang.fnT 84 = true := rfl
theorem shF1 : tab.lang.sh 84 = none := rfl
theorem plF1 : tab.lang.plain 84 = true := rfl
theorem fnF2 : tab.lang.fnT 58 = true := rfl
theorem shF2 : tab.lang.sh 58 = none := rfl
theorem plF2 : tab.lang.plain 58 = true := rfl
theorem plI : tab.lang.plain 3 = true := rfl
theorem plB : tab.lang.plain 4 = true := rfl
theorem plS : tab.lang.plain 22 = true := rfl
theorem plE : tab.lang.plain 30 = true := rfl
theorem plT : tab.lang.plain 23 = true := rfl
theorem plLE : tab.lang.plain 85 = true := rfl
def know (l : List (Nat × Con)) (k : List (Nat × Clo)) (r : List (Nat × Rec) := []) (own : List Nat := []) : Know := ⟨tab.lang, fun f => lk none (l.map fun p => (p.1, some p.2)) f, fun f => lk none (k.map fun p => (p.1, some p.2)) f, fun f => lk none (r.map fun p => (p.1, some p.2)) f, own⟩

theorem know_ok {l : List (Nat × Con)} {k : List (Nat × Clo)} {r : List (Nat × Rec)} {own : List Nat} (h1 : ∀ p ∈ l, FnSpec Try.prog p.1 p.2) (h2 : ∀ p ∈ k, CloSpec Try.prog p.1 p.2) (h3 : ∀ p ∈ r, RecSpec Try.prog p.1 p.2) : KnowOK Try.prog (know l k r own) :=
  ⟨tabOK.lang, fun f c hf => by obtain ⟨v, h3, rfl⟩ := lk_inv (g := fun x : Con => x) hf; exact h1 _ h3, fun f c hf => by obtain ⟨v, h3, rfl⟩ := lk_inv (g := fun x : Clo => x) hf; exact h2 _ h3, fun f c hf => by obtain ⟨v, h4, rfl⟩ := lk_inv (g := fun x : Rec => x) hf; exact h3 _ h4⟩

theorem know_G (l : List (Nat × Con)) (k : List (Nat × Clo)) (r : List (Nat × Rec)) (own : List Nat) : (know l k r own).G = tab.lang := rfl
theorem know_T (l : List (Nat × Con)) (k : List (Nat × Clo)) (r : List (Nat × Rec)) (own : List Nat) (f : FuncId) : (know l k r own).T f = lk none (l.map fun p => (p.1, some p.2)) f := rfl
theorem know_K (l : List (Nat × Con)) (k : List (Nat × Clo)) (r : List (Nat × Rec)) (own : List Nat) (f : FuncId) : (know l k r own).K f = lk none (k.map fun p => (p.1, some p.2)) f := rfl
theorem know_R (l : List (Nat × Con)) (k : List (Nat × Clo)) (r : List (Nat × Rec)) (own : List Nat) (f : FuncId) : (know l k r own).R f = lk none (r.map fun p => (p.1, some p.2)) f := rfl
theorem know_own (l : List (Nat × Con)) (k : List (Nat × Clo)) (r : List (Nat × Rec)) (own : List Nat) : (know l k r own).own = own := rfl

attribute [push_cast] shI shB shS shE shT shLE shPr shJ shFo shOf onPr fdPr0 fdPr1 onJ fdJ0 fdJ1 fdJ2 onFo fdFo0 fdFo1 fdOf0 fdOf1 fdOf2 elS elT elLE fnF1 shF1 plF1 fnF2 shF2 plF2 plI plB plS plE plT plLE know_G know_T know_K know_R know_own
end Go.Proofs.Ytogopoiohckpdae
