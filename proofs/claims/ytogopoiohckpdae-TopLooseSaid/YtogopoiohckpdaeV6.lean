/- Ways out by a panic with a struct, and back. Over any program; no condition. -/
import Derived.Test.YtogopoiohckpdaeV4
import Derived.Recover
namespace Go.VS
open Go.RowKit
set_option linter.unusedSimpArgs false
set_option linter.unusedVariables false

def PN (C : Ctx) (N : Nat) (K : AS → Prop) (G : List PanicEntry → World → Prop) : Exit → Act → World → Prop
  | .normal, a, w => ∃ s γ, Rel C γ s a w ∧ a.tmps.size = N ∧ K s
  | .panic ch, a, w => a.defers = [] ∧ G ch w
  | _, _, _ => False

/-- The code comes to its end in a state of K, or it panics as G says. -/
structure triP (C : Ctx) (N : Nat) (c : Code) (K : AS → Prop) (G : List PanicEntry → World → Prop) (s : AS) : Prop where
  run : ∀ γ a w, Rel C γ s a w → a.tmps.size = N → c.wp C.P (PN C N K G) a w

section
variable {C : Ctx} {N : Nat} {K : AS → Prop} {G : List PanicEntry → World → Prop} {s t : AS} {E : Know}

theorem triP_tri {c : Code} (h : tri C N c (thenQ K fun _ _ => False) s) : triP C N c K G s :=
  ⟨fun γ a w hr hN => wp_mono (h.run γ a w hr hN) fun e a' w' ⟨s', γ', h1, h2, h3⟩ => by
    cases e with
    | normal => exact ⟨s', γ', h1, h2, h3⟩
    | _ => exact h3.elim⟩
theorem triP_weak {c : Code} (hw : Weak C.nl s t) (h : triP C N c K G t) : triP C N c K G s := ⟨fun _ a w hr hN => h.run _ a w (hw.rel hr) hN⟩
theorem triP_seqk {x y : Code} (h : ∀ K' : AS → Prop, (∀ s, triP C N y K G s → K' s) → triP C N x K' G s) : triP C N (.seq x y) K G s := by
  have h1 := h (fun s => triP C N y K G s) fun _ h => h
  refine ⟨fun γ a w hr hN => wp_seq (wp_mono (h1.run γ a w hr hN) ?_)⟩
  intro e a' w' h2
  cases e with
  | normal => obtain ⟨s', γ', g1, g2, g3⟩ := h2; exact g3.run γ' a' w' g1 g2
  | _ => exact h2
theorem triP_block {id : Nat} {c : Code} (h : triP C N c K G s) : triP C N (.block id c) K G s := by
  refine ⟨fun γ a w hr hN => wp_block (wp_mono (h.run γ a w hr hN) ?_)⟩
  intro e a' w' h2
  cases e with
  | exit id' => exact h2.elim
  | _ => exact h2
theorem triP_loopI {c : Code} {α : Type} (F : α → AS) (I : α → Prop) (m : α → Nat) (x0 : α) (hI : I x0) (h0 : Weak C.nl s (F x0))
    (round : ∀ x, I x → ∀ K' : AS → Prop, (∀ s' y, I y → m y < m x → Weak C.nl s' (F y) → K' s') → triP C N c K' G (F x)) : triP C N (.loop c) K G s := by
  refine ⟨fun γ a w hr hN => ?_⟩
  refine wp_loop_ghost (fun n a w => ∃ x γ, m x = n ∧ I x ∧ Rel C γ (F x) a w ∧ a.tmps.size = N) (m x0) ⟨x0, _, rfl, hI, h0.rel hr, hN⟩ ?_
  rintro n a w ⟨x, γ, rfl, hx, hr, hN⟩
  refine wp_mono ((round x hx (fun s' => ∃ y, I y ∧ m y < m x ∧ Weak C.nl s' (F y)) fun _ y a b c => ⟨y, a, b, c⟩).run γ a w hr hN) ?_
  intro e a' w' h
  cases e with
  | normal => obtain ⟨s', γ', h1, h2, y, h3, h4, h5⟩ := h; exact ⟨m y, h4, y, _, rfl, h3, h5.rel h1, h2⟩
  | _ => exact h
theorem triP_cond {c : Operand} {x y : Code} {b : Bool} (hc : ev s c = .one (.val .bool b)) (h1 : b = true → triP C N x K G s) (h2 : b = false → triP C N y K G s) : triP C N (.cond c x y) K G s := by
  refine ⟨fun γ a w hr hN => ?_⟩
  have hv := ev_rep hr c
  rw [hc] at hv
  exact wp_cond_split (rep_bool hv) (fun hb => (h1 hb).run γ a w hr hN) (fun hb => (h2 hb).run γ a w hr hN)
theorem triP_skip (h : K s) : triP C N .skip K G s := ⟨fun γ _ _ hr hN => wp_skip ⟨s, γ, hr, hN, h⟩⟩

/-- What a search panics with: a struct of two data. -/
def FoundAt (C : Ctx) (T : TypeId) (A B : Sh) (x : A.T) (y : B.T) (ch : List PanicEntry) (w : World) : Prop :=
  ∃ γ u v, ch = [{ v := .iface T (.agg #[u, v]), recovered := false }] ∧ vrep w (C.zn γ) A x u ∧ vrep w (C.zn γ) B y v ∧ Keep C.L C.w0 w
theorem foundAt {γ : Gam} {a : Act} {w : World} {T : TypeId} {A B : Sh} {x : List A.T} {y : List B.T} {d : Nat} (h : Rel C γ s a w) (he : s.env d = .one (.val (.prod (.sl A) (.sl B)) (x, y))) :
    FoundAt C T (.sl A) (.sl B) x y [{ v := .iface T (a.tmps.getD d undef), recovered := false }] w := by
  have h1 := h.env d
  rw [he] at h1
  obtain ⟨cs, ⟨c, d', rfl, hc, hd⟩, hv⟩ := h1
  rw [hv]
  have hc' := hc
  have hd' := hd
  obtain ⟨a1, cap1, rfl, _⟩ := hc'
  obtain ⟨a2, cap2, rfl, _⟩ := hd'
  exact ⟨γ, _, _, rfl, ⟨_, hc, rfl⟩, ⟨_, hd, rfl⟩, h.keep⟩

/-- A function that always panics. -/
theorem pan_of {P : Program} {E : Know} (hE : KnowOK P E) {f : FuncId} {fn : Func} {as : List AD} {code : Code} {x : TupA as} {G : Ctx → List PanicEntry → World → Prop} (hf : P.funcs[f]? = some fn) (hb : fn.body = some code)
    (hn : (paramBVs 0 as x).length ≤ fn.ntmps) (h : ∀ C : Ctx, C.P = P → KnowOK C.P E → C.nl = lends as → argsFit as x → triP C fn.ntmps code (fun _ => False) (G C) (entry as x)) (C : Ctx) (γ : Gam) (vs : List Value) (hen : Entry C γ P as x vs) :
    Calls P f vs.toArray C.w0 (fun e w => ∃ ch, e = .panicked ch ∧ G C ch w) := by
  obtain rfl := hen.P
  refine calls_of_wp hf hb ?_
  have hlen := bvsRep_len _ _ hen.args
  have hr := entry_rel hen (fn.ntmps - vs.length)
  refine wp_mono ((h C rfl hE hen.nl (argsFit_of _ _ _ _ hen.args)).run γ _ _ (by simpa using hr) (by simp; omega)) ?_
  intro e a' w' h2
  cases e with
  | normal => obtain ⟨_, _, _, _, h3⟩ := h2; exact h3.elim
  | panic ch => exact ⟨h2.1, _, rfl, h2.2⟩
  | _ => exact h2.elim

theorem goP {c : Code} {K' : AS → Prop} (h : ∀ s, triP C N c K G s → K' s) (h2 : triP C N c K G s) : K' s := h s h2

theorem triP_throw (hE : KnowOK C.P E) {id d1 d2 : Nat} {T t1 t2 t3 : TypeId} {op1 : Op} {p1 p2 p3 : String} {f1 f2 f3 : Array Edge} {fs : Array Field} {A B : Sh} {x : List A.T} {y : List B.T} (hT : C.P.underlying T = some (.struct fs))
    (hd : allDst N [⟨some d1, op1, t1, p1, f1, none⟩, ⟨some d2, .makeInterface T (.tmp d1), t2, p2, f2, none⟩, ⟨none, .panic (.tmp d2), t3, p3, f3, none⟩] = true)
    (h : runK E C.nl #[⟨some d1, op1, t1, p1, f1, none⟩, ⟨some d2, .makeInterface T (.tmp d1), t2, p2, f2, none⟩, ⟨none, .panic (.tmp d2), t3, p3, f3, none⟩] [⟨some d1, op1, t1, p1, f1, none⟩] s
      fun s' => s'.env d1 = .one (.val (.prod (.sl A) (.sl B)) (x, y))) :
    triP C N (.region id #[⟨some d1, op1, t1, p1, f1, none⟩, ⟨some d2, .makeInterface T (.tmp d1), t2, p2, f2, none⟩, ⟨none, .panic (.tmp d2), t3, p3, f3, none⟩] false) K (FoundAt C T (.sl A) (.sl B) x y) s := by
  refine ⟨fun γ a w hr hN => ?_⟩
  subst hN
  have hd' : ∀ (j : Nat) (o : Oper), (#[⟨some d1, op1, t1, p1, f1, none⟩, ⟨some d2, .makeInterface T (.tmp d1), t2, p2, f2, none⟩, ⟨none, .panic (.tmp d2), t3, p3, f3, none⟩] : Array Oper)[j]? = some o → dstOK a.tmps.size o.dst = true := fun j o ho => allDst_spec (by simpa using hd) j o ho
  have hb := List.all_eq_true.1 hd
  refine wp_region_lit (l := [_, _, _]) ?_
  refine wpList_step fun K' hK' => ?_
  refine stepK_sound hE hr hd' (hb _ (by simp)) h fun s' γ' a' w' h1 h2 h3 => hK' _ _ ?_
  have hsz : d2 < a'.tmps.size := by
    have := hb ⟨some d2, .makeInterface T (.tmp d1), t2, p2, f2, none⟩ (by simp)
    rw [h2]
    simpa [dstOK] using this
  refine wpList_step fun K2 hK2 => ?_
  simp only [Region.wanted, if_true]
  have e1 : (execOp a'.eval ⟨some d2, .makeInterface T (.tmp d1), t2, p2, f2, none⟩).run C.P w' = .ok (.value (.iface T (a'.tmps.getD d1 undef))) w' := by
    have hu : (underlying T).run C.P w' = .ok (.struct fs) w' := run_underlying hT w'
    simp [execOp, go_sem, Instr.makeInterface, hu, Act.eval]
  simp only [Oper.wp, e1, Oper.upon]
  refine hK2 _ _ ?_
  refine wpList_step fun K3 hK3 => ?_
  simp only [Region.wanted, if_true]
  have e2 : (execOp (a'.put (some d2) (.iface T (a'.tmps.getD d1 undef))).eval ⟨none, .panic (.tmp d2), t3, p3, f3, none⟩).run C.P w' = .halt (.panic (.iface T (a'.tmps.getD d1 undef))) w' := by
    simp [execOp, go_sem, Act.eval, Act.put, hsz]
    rfl
  simp only [Oper.wp, e2, Oper.upon]
  exact ⟨h1.defers, foundAt h1 h3⟩
end
end Go.VS
