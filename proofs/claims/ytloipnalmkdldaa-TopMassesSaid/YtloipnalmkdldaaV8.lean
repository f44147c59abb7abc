/- Value semantics, eighth part: a state weakened within a region. Over any program; no condition. -/
import Derived.Test.YtloipnalmkdldaaV7
namespace Go.VS
open Go.RowKit
set_option linter.unusedSimpArgs false
set_option linter.unusedVariables false

/-- What is left of a region behind its first n operations, from a weaker state. -/
structure MidQ (E : Know) (nl : Nat) (L : List Oper) (n : Nat) (K : AS → Prop) (s : AS) : Prop where
  h : ∃ t, Weak nl s t ∧ runK E nl L.toArray (L.drop n) t K
theorem MidQ.mk' {E : Know} {nl : Nat} {L : List Oper} {n : Nat} {K : AS → Prop} {s : AS} (t : AS) (h1 : Weak nl s t) (h2 : runK E nl L.toArray (L.drop n) t K) : MidQ E nl L n K s := ⟨t, h1, h2⟩
/-- A state may be weakened behind n operations of a region. -/
theorem tri_mid {C : Ctx} {N : Nat} {Q : Exit → AS → Prop} {s : AS} {E : Know} (hE : KnowOK C.P E) {id : Nat} {L : List Oper} (n : Nat) (hd : allDst N L = true)
    (h : runK E C.nl L.toArray (L.take n) s (MidQ E C.nl L n (Q .normal))) : tri C N (.region id L.toArray false) Q s := by
  refine ⟨fun γ a w hr hN => ?_⟩
  have hd' : ∀ (j : Nat) (o : Oper), L.toArray[j]? = some o → dstOK N o.dst = true := fun j o ho => allDst_spec (ops := L.toArray) (by simpa using hd) j o ho
  have hb := List.all_eq_true.1 hd
  refine wp_region_lit ?_
  have key := runK_then (N := N) (rest := L.drop n) hE (Q := fun e a' w' => ∃ s' γ', Rel C γ' s' a' w' ∧ a'.tmps.size = N ∧ Q e s') hd'
    (fun s' γ' a' w' h1 h2 h3 => ?_) (L.take n) s γ a w (fun o ho => hb o (List.mem_of_mem_take ho)) hN hr h
  · rw [List.take_append_drop] at key
    exact key
  obtain ⟨t, k1, k2⟩ := h3.h
  exact runK_sound (N := N) hE hd' (fun s2 γ2 a2 w2 g1 g2 g3 => ⟨s2, γ2, g1, g2, g3⟩) (L.drop n) _ _ _ _ (fun o ho => hb o (List.mem_of_mem_drop ho)) h2 (k1.rel h1) k2
end Go.VS
