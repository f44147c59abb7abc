/- The types of this program's lists, tables, pairs, prices and jobs. No condition. -/
import Derived.Test.YtloipnalmkdldaaRows
import Derived.Test.YtloipnalmkdldaaV3
import Derived.KernelRfl
namespace Go.Proofs.Ytloipnalmkdldaa
open Go.RowKit Go.VS
set_option linter.unusedSimpArgs false
set_option linter.unusedVariables false

def tab : Tab where
  sh := [(3, .int), (4, .bool), (33, .sl .int), (26, .int), (22, .sl (.sl .int)), (25, .sl (.prod .int .int)), (32, .prod .int .int), (48, .sl (.prod .int .int)), (50, .prod .int .int), (45, .sl (.sl (.prod .int .int)))]
  el := [(33, 3), (22, 33), (25, 32), (48, 50), (45, 48)]
  plain := [3, 4, 33, 26, 22, 25, 48, 45, 67, 73, 70]
  fld := [(32, [(0, 3), (1, 3)]), (50, [(0, 3), (1, 3)])]
  ones := [(32, 2), (50, 2)]
  fns := [67, 73, 70]

theorem tabOK : TabOK Try.prog tab := by
  refine ⟨by kernel_rfl, by kernel_rfl, by kernel_rfl, by kernel_rfl, by kernel_rfl, by kernel_rfl, by kernel_rfl, ?_, by kernel_rfl, by kernel_rfl⟩
  intro t ht w a b c d x y
  have hm := sh_mem ht
  simp only [tab, List.mem_cons, List.not_mem_nil, Prod.mk.injEq, reduceCtorEq, and_false, or_false, false_or, and_true, Sh.prod.injEq] at hm
  rcases hm with rfl | rfl
  · exact pair_run (ti := 3) (by kernel_rfl) (by kernel_rfl) (by kernel_rfl) (by kernel_rfl) (by kernel_rfl) w a b c d x y
  · exact pair_run (ti := 3) (by kernel_rfl) (by kernel_rfl) (by kernel_rfl) (by kernel_rfl) (by kernel_rfl) w a b c d x y
theorem shI : tab.lang.sh 3 = some (.int) := rfl
theorem shB : tab.lang.sh 4 = some (.bool) := rfl
theorem shS : tab.lang.sh 33 = some (.sl .int) := rfl
theorem shE : tab.lang.sh 26 = some (.int) := rfl
theorem shT : tab.lang.sh 22 = some (.sl (.sl .int)) := rfl
theorem shLP : tab.lang.sh 25 = some (.sl (.prod .int .int)) := rfl
theorem shP : tab.lang.sh 32 = some (.prod .int .int) := rfl
theorem shLR : tab.lang.sh 48 = some (.sl (.prod .int .int)) := rfl
theorem shR : tab.lang.sh 50 = some (.prod .int .int) := rfl
theorem shTR : tab.lang.sh 45 = some (.sl (.sl (.prod .int .int))) := rfl
theorem onP : tab.lang.ones 32 = some 2 := rfl
theorem fdP0 : tab.lang.fld 32 0 = some (2, 0) := rfl
theorem fdP1 : tab.lang.fld 32 1 = some (2, 1) := rfl
theorem onR : tab.lang.ones 50 = some 2 := rfl
theorem fdR0 : tab.lang.fld 50 0 = some (2, 0) := rfl
theorem fdR1 : tab.lang.fld 50 1 = some (2, 1) := rfl
theorem elS : tab.lang.el 33 = 3 := rfl
theorem elT : tab.lang.el 22 = 33 := rfl
theorem elLP : tab.lang.el 25 = 32 := rfl
theorem elLR : tab.lang.el 48 = 50 := rfl
theorem elTR : tab.lang.el 45 = 48 := rfl
theorem fnF1 : tab.lang.fnT 67 = true := rfl
theorem shF1 : tab.lang.sh 67 = none := rfl
theorem plF1 : tab.lang.plain 67 = true := rfl
theorem fnF2 : tab.lang.fnT 73 = true := rfl
theorem shF2 : tab.lang.sh 73 = none := rfl
theorem plF2 : tab.lang.plain 73 = true := rfl
theorem fnF3 : tab.lang.fnT 70 = true := rfl
theorem shF3 : tab.lang.sh 70 = none := rfl
theorem plF3 : tab.lang.plain 70 = true := rfl
theorem plI : tab.lang.plain 3 = true := rfl
theorem plB : tab.lang.plain 4 = true := rfl
theorem plS : tab.lang.plain 33 = true := rfl
theorem plE : tab.lang.plain 26 = true := rfl
theorem plT : tab.lang.plain 22 = true := rfl
theorem plLP : tab.lang.plain 25 = true := rfl
theorem plLR : tab.lang.plain 48 = true := rfl
theorem plTR : tab.lang.plain 45 = true := rfl
def know (l : List (Nat × Con)) (k : List (Nat × Clo)) (r : List (Nat × Rec) := []) (own : List Nat := []) : Know := ⟨tab.lang, fun f => lk none (l.map fun p => (p.1, some p.2)) f, fun f => lk none (k.map fun p => (p.1, some p.2)) f, fun f => lk none (r.map fun p => (p.1, some p.2)) f, own⟩

theorem know_ok {l : List (Nat × Con)} {k : List (Nat × Clo)} {r : List (Nat × Rec)} {own : List Nat} (h1 : ∀ p ∈ l, FnSpec Try.prog p.1 p.2) (h2 : ∀ p ∈ k, CloSpec Try.prog p.1 p.2) (h3 : ∀ p ∈ r, RecSpec Try.prog p.1 p.2) : KnowOK Try.prog (know l k r own) :=
  ⟨tabOK.lang, fun f c hf => by obtain ⟨v, h3, rfl⟩ := lk_inv (g := fun x : Con => x) hf; exact h1 _ h3, fun f c hf => by obtain ⟨v, h3, rfl⟩ := lk_inv (g := fun x : Clo => x) hf; exact h2 _ h3, fun f c hf => by obtain ⟨v, h4, rfl⟩ := lk_inv (g := fun x : Rec => x) hf; exact h3 _ h4⟩

theorem know_G (l : List (Nat × Con)) (k : List (Nat × Clo)) (r : List (Nat × Rec)) (own : List Nat) : (know l k r own).G = tab.lang := rfl
theorem know_T (l : List (Nat × Con)) (k : List (Nat × Clo)) (r : List (Nat × Rec)) (own : List Nat) (f : FuncId) : (know l k r own).T f = lk none (l.map fun p => (p.1, some p.2)) f := rfl
theorem know_K (l : List (Nat × Con)) (k : List (Nat × Clo)) (r : List (Nat × Rec)) (own : List Nat) (f : FuncId) : (know l k r own).K f = lk none (k.map fun p => (p.1, some p.2)) f := rfl
theorem know_R (l : List (Nat × Con)) (k : List (Nat × Clo)) (r : List (Nat × Rec)) (own : List Nat) (f : FuncId) : (know l k r own).R f = lk none (r.map fun p => (p.1, some p.2)) f := rfl
theorem know_own (l : List (Nat × Con)) (k : List (Nat × Clo)) (r : List (Nat × Rec)) (own : List Nat) : (know l k r own).own = own := rfl

attribute [push_cast] shI shB shS shE shT shLP shP shLR shR shTR onP fdP0 fdP1 onR fdR0 fdR1 elS elT elLP elLR elTR fnF1 shF1 plF1 fnF2 shF2 plF2 fnF3 shF3 plF3 plI plB plS plE plT plLP plLR plTR know_G know_T know_K know_R know_own
end Go.Proofs.Ytloipnalmkdldaa
