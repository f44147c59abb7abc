/- The types of this program's lists, tables, pairs and fractions. No condition. -/
import Derived.Test.YtnicofjegkkppaaRows
import Derived.Test.YtnicofjegkkppaaVsW
import Derived.KernelRfl
namespace Go.Proofs.Ytnicofjegkkppaa
open Go.RowKit Go.VS
set_option linter.unusedSimpArgs false
set_option linter.unusedVariables false

def tab : Tab where
  sh := [(3, .int), (4, .bool), (22, .sl .int), (25, .int), (36, .sl (.sl .int)), (48, .sl (.prod .int .int)), (54, .prod .int .int), (69, .sl (.prod .int .int)), (71, .prod .int .int), (31, .sl (.sl (.prod .int .int)))]
  el := [(22, 3), (36, 22), (48, 54), (69, 71), (31, 69)]
  plain := [3, 4, 22, 25, 36, 48, 69, 31, 63]
  fld := [(54, [(0, 3), (1, 3)]), (71, [(0, 3), (1, 3)])]
  ones := [(54, 2), (71, 2)]
  fns := [63]

theorem tabOK : TabOK Try.prog tab := by
  refine ⟨by kernel_rfl, by kernel_rfl, by kernel_rfl, by kernel_rfl, by kernel_rfl, by kernel_rfl, by kernel_rfl, ?_, by kernel_rfl, by kernel_rfl⟩
  intro t ht w a b c d x y
  have hm := sh_mem ht
  simp only [tab, List.mem_cons, List.not_mem_nil, Prod.mk.injEq, reduceCtorEq, and_false, or_false, false_or, and_true] at hm
  rcases hm with rfl | rfl
  · exact pair_run (ti := 3) (by kernel_rfl) (by kernel_rfl) (by kernel_rfl) (by kernel_rfl) (by kernel_rfl) w a b c d x y
  · exact pair_run (ti := 3) (by kernel_rfl) (by kernel_rfl) (by kernel_rfl) (by kernel_rfl) (by kernel_rfl) w a b c d x y
theorem shI : tab.lang.sh 3 = some .int := rfl
theorem shB : tab.lang.sh 4 = some .bool := rfl
theorem shS : tab.lang.sh 22 = some (.sl .int) := rfl
theorem shE : tab.lang.sh 25 = some .int := rfl
theorem shT : tab.lang.sh 36 = some (.sl (.sl .int)) := rfl
theorem shLP : tab.lang.sh 48 = some (.sl (.prod .int .int)) := rfl
theorem shP : tab.lang.sh 54 = some (.prod .int .int) := rfl
theorem shLR : tab.lang.sh 69 = some (.sl (.prod .int .int)) := rfl
theorem shR : tab.lang.sh 71 = some (.prod .int .int) := rfl
theorem shTR : tab.lang.sh 31 = some (.sl (.sl (.prod .int .int))) := rfl

theorem onP : tab.lang.ones 54 = some 2 := rfl
theorem onR : tab.lang.ones 71 = some 2 := rfl
theorem fdP0 : tab.lang.fld 54 0 = some (2, 0) := rfl
theorem fdP1 : tab.lang.fld 54 1 = some (2, 1) := rfl
theorem fdR0 : tab.lang.fld 71 0 = some (2, 0) := rfl
theorem fdR1 : tab.lang.fld 71 1 = some (2, 1) := rfl
theorem elS : tab.lang.el 22 = 3 := rfl
theorem elT : tab.lang.el 36 = 22 := rfl
theorem elLP : tab.lang.el 48 = 54 := rfl
theorem elLR : tab.lang.el 69 = 71 := rfl
theorem elTR : tab.lang.el 31 = 69 := rfl
theorem fnC : tab.lang.fnT 63 = true := rfl
theorem shC : tab.lang.sh 63 = none := rfl
theorem plC : tab.lang.plain 63 = true := rfl
theorem plI : tab.lang.plain 3 = true := rfl
theorem plS : tab.lang.plain 22 = true := rfl

def know (l : List (Nat × Con)) (k : List (Nat × Clo)) (r : List (Nat × Rec) := []) (own : List Nat := []) : Know := ⟨tab.lang, fun f => lk none (l.map fun p => (p.1, some p.2)) f, fun f => lk none (k.map fun p => (p.1, some p.2)) f, fun f => lk none (r.map fun p => (p.1, some p.2)) f, own⟩

theorem know_ok {l : List (Nat × Con)} {k : List (Nat × Clo)} {r : List (Nat × Rec)} {own : List Nat} (h1 : ∀ p ∈ l, FnSpec Try.prog p.1 p.2) (h2 : ∀ p ∈ k, CloSpec Try.prog p.1 p.2) (h3 : ∀ p ∈ r, RecSpec Try.prog p.1 p.2) : KnowOK Try.prog (know l k r own) :=
  ⟨tabOK.lang, fun f c hf => by obtain ⟨v, h3, rfl⟩ := lk_inv (g := fun x : Con => x) hf; exact h1 _ h3, fun f c hf => by obtain ⟨v, h3, rfl⟩ := lk_inv (g := fun x : Clo => x) hf; exact h2 _ h3, fun f c hf => by obtain ⟨v, h4, rfl⟩ := lk_inv (g := fun x : Rec => x) hf; exact h3 _ h4⟩

theorem know_G (l : List (Nat × Con)) (k : List (Nat × Clo)) (r : List (Nat × Rec)) (own : List Nat) : (know l k r own).G = tab.lang := rfl
theorem know_T (l : List (Nat × Con)) (k : List (Nat × Clo)) (r : List (Nat × Rec)) (own : List Nat) (f : FuncId) : (know l k r own).T f = lk none (l.map fun p => (p.1, some p.2)) f := rfl
theorem know_K (l : List (Nat × Con)) (k : List (Nat × Clo)) (r : List (Nat × Rec)) (own : List Nat) (f : FuncId) : (know l k r own).K f = lk none (k.map fun p => (p.1, some p.2)) f := rfl
theorem know_R (l : List (Nat × Con)) (k : List (Nat × Clo)) (r : List (Nat × Rec)) (own : List Nat) (f : FuncId) : (know l k r own).R f = lk none (r.map fun p => (p.1, some p.2)) f := rfl
theorem know_own (l : List (Nat × Con)) (k : List (Nat × Clo)) (r : List (Nat × Rec)) (own : List Nat) : (know l k r own).own = own := rfl

attribute [push_cast] onP onR fdP0 fdP1 fdR0 fdR1 know_G know_T know_K know_R know_own elS elT elLP elLR elTR fnC shC plC plI plS shI shB shS shE shT shLP shP shLR shR shTR
end Go.Proofs.Ytnicofjegkkppaa
