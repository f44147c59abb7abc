/- look: what the search panicked with is recovered. Condition: masses and costs that fit. -/
import Derived.Test.YtogopoiohckpdaeSa
import Derived.Recover
import Derived.Tactics2
import Derived.Laws.Pointers
namespace Go.Proofs.Ytogopoiohckpdae
open Go.RowKit Go.VS Go.OT
set_option linter.unusedSimpArgs false
set_option linter.unusedVariables false

theorem ta_found (xt : TypeId) (v : Value) (w : World) : (Instr.typeAssert (.iface 54 v) xt 54 true).run Try.prog w = .ok (.tuple #[v, .bool true]) w := by
  have hu := run_underlying (P := Try.prog) Try.underlying54 w
  simp [Instr.typeAssert, hu]
theorem two_cells {w : World} {g : Nat} {t : TypeId} {x y : Value} (h : w.heap[g]? = some (.cells #[x, y] t (0, 0))) (u v : Value) :
    w.cell? ⟨g, 0, none⟩ = some x ∧ w.frozen? ⟨g, 0, none⟩ = false ∧ (w.setCell ⟨g, 0, none⟩ u).cell? ⟨g, 1, none⟩ = some y ∧ (w.setCell ⟨g, 0, none⟩ u).frozen? ⟨g, 1, none⟩ = false ∧
    ((w.setCell ⟨g, 0, none⟩ u).setCell ⟨g, 1, none⟩ v).heap[g]? = some (.cells #[u, v] t (0, 0)) ∧ Keep (fun k => k = g) w ((w.setCell ⟨g, 0, none⟩ u).setCell ⟨g, 1, none⟩ v) := by
  have e1 : w.setCell ⟨g, 0, none⟩ u = w.setRow g #[u, y] := setCell_eq_setRow w g 0 #[x, y] t (0, 0) u h
  have h1 : (w.setRow g #[u, y]).heap[g]? = some (.cells #[u, y] t (0, 0)) := setRow_heap w g _ _ t _ h
  have e2 : (w.setRow g #[u, y]).setCell ⟨g, 1, none⟩ v = (w.setRow g #[u, y]).setRow g #[u, v] := setCell_eq_setRow _ g 1 #[u, y] t (0, 0) v h1
  rw [e1, e2]
  refine ⟨by simp [World.cell?, h], by simp [World.frozen?, h], by simp [World.cell?, h1], by simp [World.frozen?, h1], setRow_heap _ g _ _ t _ h1, ⟨rfl, rfl, rfl, by simp [World.setRow], fun k hk hne => ?_⟩⟩
  rw [setRow_other _ g k _ hne, setRow_other _ g k _ hne]

theorem catch_found (b : Nat) (a1 a2 : Option Addr) (n1 c1 n2 c2 : Nat) (w : World) (t : TypeId) (x y : Value) (hb : w.heap[b]? = some (.cells #[x, y] t (0, 0))) :
    CallsD Try.prog 43 #[.pointer (some ⟨b, 0, none⟩)] (.panicking [{ v := .iface 54 (.agg #[.slice a1 n1 c1, .slice a2 n2 c2]), recovered := false }]) w fun e u' w' =>
      e = .returned (.tuple #[]) ∧ u' = .panicking [{ v := .iface 54 (.agg #[.slice a1 n1 c1, .slice a2 n2 c2]), recovered := true }] ∧
      Keep (fun k => k = b) w w' ∧ w'.heap[b]? = some (.cells #[.slice a1 n1 c1, .slice a2 n2 c2] t (0, 0)) := by
  refine callsD_of_wpS Try.func43 rfl fun c₀ cs hu => ?_
  apply wpS_seq
  apply wpS_region
  simp [wpOpsS, go_sem, recoverD, hu, Try.ntmps43, Exit.thenS]
  apply wpS_seq
  apply wpS_region
  simp [wpOpsS, go_sem, Exit.thenS, ta_found]
  have hblt : b < w.heap.size := (Array.getElem?_eq_some_iff.1 hb).1
  have h1 : (w.alloc (.cells #[.slice a1 n1 c1, .slice a2 n2 c2] 54)).heap[w.heap.size]? = some (.cells #[.slice a1 n1 c1, .slice a2 n2 c2] 54 (0, 0)) := by simp only [World.alloc, Array.getElem?_push, if_true]
  have h2 : (w.alloc (.cells #[.slice a1 n1 c1, .slice a2 n2 c2] 54)).heap[b]? = some (.cells #[x, y] t (0, 0)) := by
    simp only [World.alloc, Array.getElem?_push]
    rw [if_neg (by omega)]
    exact hb
  obtain ⟨W, hW⟩ : ∃ W, W = w.alloc (.cells #[.slice a1 n1 c1, .slice a2 n2 c2] 54) := ⟨_, rfl⟩
  have hkW : Keep (fun k => k = b) w W := by
    rw [hW]
    exact ⟨rfl, rfl, rfl, by simp only [World.alloc, Array.size_push]; omega, fun k hk _ => by simp only [World.alloc, Array.getElem?_push]; rw [if_neg (by omega)]⟩
  rw [← hW] at h1 h2 ⊢
  have l0 : W.cell? ⟨w.heap.size, 0, none⟩ = some (.slice a1 n1 c1) := by simp [World.cell?, h1]
  have l1 : W.cell? ⟨w.heap.size, 1, none⟩ = some (.slice a2 n2 c2) := by simp [World.cell?, h1]
  obtain ⟨e1, e2, e3, e4, e5, e6⟩ := two_cells h2 (.slice a1 n1 c1) (.slice a2 n2 c2)
  apply wpS_seq
  apply wpS_seq
  apply wpS_region
  simp [wpOpsS, go_sem, Exit.thenS]
  refine wpS_cond (t := false) (by simp [Act.eval, Array.replicate]) ?_
  simp only [Bool.false_eq_true, if_false]
  refine wpS_of_wp (wp_skip ?_)
  simp only [Exit.thenS]
  apply wpS_region
  simp [wpOpsS, go_sem, Exit.thenS, l0, l1, e1, e2, e3, e4, bodyPostS, results, Try.results43]
  exact ⟨hkW.step e6 (fun k hk _ => hk), e5⟩

@[push_cast] def lookCon : Con := ⟨searchAs, fun (x : SeArgs) => MC x.1 x.2.1 x.2.2.1 ∧ ∀ y, x.2.2.2.1.1 y,
  fun (x : SeArgs) => { res := [.val (.prod (.sl (.sl .int)) (.sl .int)) (stepP x.1 x.2.1 x.2.2.1 (foundK x.1 x.2.1 x.2.2.1 x.2.2.2.1.2), partsL x.1 x.2.1 x.2.2.1 (foundK x.1 x.2.1 x.2.2.1 x.2.2.2.1.2))] }⟩

set_option maxRecDepth 20000 in
theorem look_spec : FnSpec Try.prog 22 lookCon := by
  refine ⟨⟨_, Try.func22, by kernel_rfl, rfl⟩, fun C γ x vs hpre hen => ?_⟩
  have hP := hen.P
  have hlt := hen.ownlt
  obtain ⟨hm, hq⟩ := hpre
  have hargs := hen.args
  obtain ⟨(a : List Int), (b : List Int), (c : List (List Int)), ⟨(q : List Int × Int × Unit → Prop), (p : List Int × Int × Unit → Bool)⟩, _⟩ := x
  dsimp only at hm hq
  obtain ⟨va, _, rfl, ha, vb, _, rfl, hb, vc, _, rfl, hc, vf, _, rfl, hf, rfl⟩ := hargs
  have hmf : ∀ (fn : Fn) (first cap : Array Value) (w : World), (Instr.makeFunc fn first cap).run Try.prog w = .ok (.func fn first cap) w := fun _ _ _ _ => rfl
  show Calls _ _ #[va, vb, vc, vf] C.w0 _
  obtain ⟨w, hw⟩ : ∃ w, w = C.w0 := ⟨_, rfl⟩
  obtain ⟨W, hW⟩ : ∃ W, W = w.alloc (.cells #[.slice none 0 0, .slice none 0 0] 54) := ⟨_, rfl⟩
  have hsz : W.heap.size = w.heap.size + 1 := by rw [hW]; simp only [World.alloc, Array.size_push]
  have hold : ∀ k, k < w.heap.size → W.heap[k]? = w.heap[k]? := fun k hk => by rw [hW]; simp only [World.alloc, Array.getElem?_push]; rw [if_neg (by omega)]
  have hnew : W.heap[w.heap.size]? = some (.cells #[.slice none 0 0, .slice none 0 0] 54 (0, 0)) := by rw [hW]; simp only [World.alloc, Array.getElem?_push, if_true]
  have hkW : ∀ L, Keep L w W := fun L => ⟨by rw [hW]; rfl, by rw [hW]; rfl, by rw [hW]; rfl, by omega, fun k hk _ => hold k hk⟩
  let C1 : Ctx := ⟨Try.prog, fun _ => False, W, fun b => C.zn γ b ∧ b < w.heap.size, 0, fun _ => undef⟩
  let γ1 : Gam := ⟨fun _ => ⟨none, 0, 0⟩, fun _ _ => ⟨none, 0, 0⟩, fun _ => 0, fun _ => none⟩
  have hmono : ∀ (s : Sh) (x : s.T) v, vrep w (C.zn γ) s x v → vrep W (C1.zn γ1) s x v := fun s x v ⟨cs, h1, h2⟩ => ⟨cs, pers_mono (by omega) (fun b hb hz => ⟨⟨.inl ⟨hz, hb⟩, rfl⟩, hold b hb⟩) s x cs h1, h2⟩
  rw [← hw] at ha hb hc
  have hf' : FnOK C1.P C1.L C1.w0 [.sl .int, .int] .bool q p vf := by
    obtain ⟨f, pre, caps, e1, e2, e3⟩ := hf
    rw [hP] at e2 e3
    exact ⟨f, pre, caps, e1, e2, fun w1 Z x vs hk hqx hargs => e3 w1 Z x vs (by rw [← hw]; exact (hkW C.L).step hk (fun b hb _ => hb.elim)) hqx hargs⟩
  have hcall := search_pan C1 γ1 (a, b, c, (q, p), ()) [va, vb, vc, vf] hm hq ⟨rfl, rfl, fun r hr => absurd hr (Nat.not_lt_zero _), fun k l h => (by cases h), ⟨va, _, rfl, hmono _ _ _ ha, vb, _, rfl, hmono _ _ _ hb, vc, _, rfl, hmono _ _ _ hc, vf, _, rfl, hf', rfl⟩, fun p hp => (by cases hp)⟩
  rw [← hw]
  go_enter_defers Try.func22, Try.ntmps22
  rw [show [va, vb, vc, vf].toArray = #[va, vb, vc, vf] from rfl] at hcall
  have hcall' : Calls Try.prog 44 #[va, vb, vc, vf] (C.w0.alloc (.cells #[.slice none 0 0, .slice none 0 0] 54)) (fun e w' => ∃ ch, e = .panicked ch ∧ FoundAt C1 54 (.sl (.sl .int)) (.sl .int) (stepP a b c (foundK a b c p)) (partsL a b c (foundK a b c p)) ch w') := by rw [← hw, ← hW]; exact hcall
  go_wp2_with (go_at_call 44; refine hcall'.mono ?_; rintro e w2 ⟨ch, rfl, g1, u, v, rfl, ⟨cu, hu, rfl⟩, ⟨cv, hv, rfl⟩, hk⟩)
  rw [← hw]
  have hu' := hu
  have hv' := hv
  obtain ⟨a1, c1, rfl, _⟩ := hu'
  obtain ⟨a2, c2, rfl, _⟩ := hv'
  have hb2 : w2.heap[w.heap.size]? = some (.cells #[.slice none 0 0, .slice none 0 0] 54 (0, 0)) := (hk.block w.heap.size (show w.heap.size < W.heap.size by omega) (fun h => h)).trans hnew
  have hk2 : Keep C.L w w2 := (hkW C.L).step hk (fun b hb _ => hb.elim)
  have hmono2 : ∀ (w3 : World), Keep (fun k => k = w.heap.size) w2 w3 → ∀ (s : Sh) (x : s.T) cs, pers w2 (C1.zn g1) s x cs → pers w3 (C.zn γ) s x cs := fun w3 hk3 s x cs hx => by
    refine pers_mono hk3.size (fun b hb hz => ?_) s x cs hx
    obtain ⟨hz1, _⟩ := hz
    rcases hz1 with ⟨h1, h2⟩ | h1 | h1
    · exact ⟨h1, hk3.block b hb (by omega)⟩
    · have h1' : W.heap.size ≤ b := h1
      refine ⟨⟨.inr (.inl (by rw [← hw]; omega)), ?_⟩, hk3.block b hb (by omega)⟩
      cases ho : γ.own b with
      | none => rfl
      | some l => exact absurd (hlt b l ho) (by rw [← hw]; omega)
    · exact h1.elim
  show Leaves Try.prog _ _ _ _ (.panicking _) w2
  refine leaves_cons (f := 43) (args := #[.pointer (some ⟨w.heap.size, 0, none⟩)]) (by simp) (by simp [go_sem]) ?_
  refine (catch_found w.heap.size a1 a2 _ c1 _ c2 w2 _ _ _ hb2).mono ?_
  rintro e u' w3 ⟨rfl, rfl, hk3, hc3⟩
  have k0 : w3.cell? ⟨w.heap.size, 0, none⟩ = some (.slice a1 (stepP a b c (foundK a b c p)).length c1) := by simp [World.cell?, hc3]
  have k1 : w3.cell? ⟨w.heap.size, 1, none⟩ = some (.slice a2 (partsL a b c (foundK a b c p)).length c2) := by simp [World.cell?, hc3]
  have hu3 := hmono2 w3 hk3 _ _ _ hu
  have hv3 := hmono2 w3 hk3 _ _ _ hv
  have hkeep : Keep C.L w w3 := hk2.step hk3 (fun b hb hlt => absurd hlt (by omega))
  simp [Leaves, settle, results, Try.results22, go_sem, k0, k1]
  exact ⟨⟨γ, ⟨[], [_], rfl, ⟨_, [], rfl, ⟨_, ⟨_, _, rfl, hu3, hv3⟩, rfl⟩, rfl, rfl⟩, List.nodup_nil⟩, fun p hp => absurd hp (List.not_mem_nil), fun k l hl => by have h1 := hlt k l hl; rw [← hw] at h1; have := hkeep.size; omega⟩, hkeep⟩
end Go.Proofs.Ytogopoiohckpdae
