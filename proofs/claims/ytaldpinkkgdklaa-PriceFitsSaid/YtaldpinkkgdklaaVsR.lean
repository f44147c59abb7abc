/- Value semantics, part R: the laws of code on abstract states, and contracts of functions from them. Over any program; no condition. -/
import Derived.Test.YtaldpinkkgdklaaVsQ
import Derived.Deep.LoopGhost
namespace Go.VS
open Go.RowKit
set_option linter.unusedSimpArgs false
set_option linter.unusedVariables false

structure tri (C : Ctx) (N : Nat) (c : Code) (Q : Exit → AS → Prop) (s : AS) : Prop where
  run : ∀ γ a w, Rel C γ s a w → a.tmps.size = N → c.wp C.P (fun e a' w' => ∃ s' γ', Rel C γ' s' a' w' ∧ a'.tmps.size = N ∧ Q e s') a w

def thenQ (next : AS → Prop) (Q : Exit → AS → Prop) : Exit → AS → Prop
  | .normal, s => next s
  | e, s => Q e s

def blockQ (id : Nat) (Q : Exit → AS → Prop) : Exit → AS → Prop
  | .exit id', s => if id' = id then Q .normal s else Q (.exit id') s
  | e, s => Q e s

def allDst (N : Nat) (ops : List Oper) : Bool := ops.all fun o => dstOK N o.dst

section
variable {C : Ctx} {N : Nat} {Q : Exit → AS → Prop} {s t : AS} {E : Know}

theorem allDst_spec {ops : Array Oper} (h : allDst N ops.toList = true) (j : Nat) (o : Oper) (ho : ops[j]? = some o) : dstOK N o.dst = true :=
  List.all_eq_true.1 h o (Array.mem_toList_iff.2 (Array.mem_of_getElem? ho))

theorem tri_mono {c : Code} {Q' : Exit → AS → Prop} (h : tri C N c Q s) (hq : ∀ e s, Q e s → Q' e s) : tri C N c Q' s :=
  ⟨fun γ a w hr hN => wp_mono (h.run γ a w hr hN) fun _ _ _ ⟨s', γ', h1, h2, h3⟩ => ⟨s', γ', h1, h2, hq _ _ h3⟩⟩

theorem tri_weak {c : Code} (hw : Weak C.nl s t) (h : tri C N c Q t) : tri C N c Q s :=
  ⟨fun _ a w hr hN => h.run _ a w (hw.rel hr) hN⟩

theorem tri_thaw {c : Code} (i d r : Nat) {e : TypeId} {sh : Sh} {xs : List sh.T} (hi : s.env i = .one (.mk d e sh xs)) (hr : C.nl ≤ r) (h : tri C N c Q (thaw s i d r e sh xs)) : tri C N c Q s := by
  refine ⟨fun γ a w hR hN => ?_⟩
  obtain ⟨γ', hR'⟩ := thaw_rel hR hi hr
  exact h.run γ' a w hR' hN

theorem tri_skip (h : Q .normal s) : tri C N .skip Q s := ⟨fun γ _ _ hr hN => wp_skip ⟨s, γ, hr, hN, h⟩⟩
theorem tri_exit {id : Nat} (h : Q (.exit id) s) : tri C N (.exit id) Q s := ⟨fun γ _ _ hr hN => wp_exit ⟨s, γ, hr, hN, h⟩⟩
theorem tri_ret (h : Q .ret s) : tri C N .ret Q s := ⟨fun γ _ _ hr hN => wp_ret ⟨s, γ, hr, hN, h⟩⟩

theorem tri_seq {x y : Code} (h : tri C N x (thenQ (tri C N y Q) Q) s) : tri C N (.seq x y) Q s := by
  refine ⟨fun γ a w hr hN => ?_⟩
  refine wp_seq (wp_mono (h.run γ a w hr hN) ?_)
  rintro e a' w' ⟨s', γ', h1, h2, h3⟩
  cases e with
  | normal => exact h3.run γ' a' w' h1 h2
  | _ => exact ⟨s', γ', h1, h2, h3⟩

theorem tri_cond {c : Operand} {x y : Code} {b : Bool} (hc : ev s c = .one (.val .bool b)) (h1 : b = true → tri C N x Q s) (h2 : b = false → tri C N y Q s) : tri C N (.cond c x y) Q s := by
  refine ⟨fun γ a w hr hN => ?_⟩
  have hv := ev_rep hr c
  rw [hc] at hv
  exact wp_cond_split (rep_bool hv) (fun hb => (h1 hb).run γ a w hr hN) (fun hb => (h2 hb).run γ a w hr hN)

theorem tri_block {id : Nat} {c : Code} (h : tri C N c (blockQ id Q) s) : tri C N (.block id c) Q s := by
  refine ⟨fun γ a w hr hN => ?_⟩
  refine wp_block (wp_mono (h.run γ a w hr hN) ?_)
  rintro e a' w' ⟨s', γ', h1, h2, h3⟩
  cases e with
  | exit id' =>
    simp only [blockQ] at h3
    simp only [Exit.inBlock]
    split
    · rename_i hid; rw [if_pos hid] at h3; exact ⟨s', γ', h1, h2, h3⟩
    · rename_i hid; rw [if_neg hid] at h3; exact ⟨s', γ', h1, h2, h3⟩
  | _ => exact ⟨s', γ', h1, h2, h3⟩

theorem tri_loop {c : Code} {α : Type} (F : α → AS) (m : α → Nat) (x0 : α) (h0 : Weak C.nl s (F x0))
    (round : ∀ x, tri C N c (thenQ (fun s' => ∃ y, Weak C.nl s' (F y) ∧ m y < m x) Q) (F x)) : tri C N (.loop c) Q s := by
  refine ⟨fun γ a w hr hN => ?_⟩
  refine wp_loop_ghost (fun n a w => ∃ x γ, m x = n ∧ Rel C γ (F x) a w ∧ a.tmps.size = N) (m x0) ⟨x0, _, rfl, h0.rel hr, hN⟩ ?_
  rintro n a w ⟨x, γ, rfl, hr, hN⟩
  refine wp_mono ((round x).run γ a w hr hN) ?_
  rintro e a' w' ⟨s', γ', h1, h2, h3⟩
  cases e with
  | normal =>
    obtain ⟨y, hw, hlt⟩ := h3
    exact ⟨m y, hlt, y, _, rfl, hw.rel h1, h2⟩
  | _ => exact ⟨s', γ', h1, h2, h3⟩

theorem tri_region (hE : KnowOK C.P E) {id : Nat} {l : List Oper} (hd : allDst N l = true) (h : runK E C.nl l.toArray l s (Q .normal)) : tri C N (.region id l.toArray false) Q s := by
  refine ⟨fun γ a w hr hN => ?_⟩
  have hd' : ∀ (j : Nat) (o : Oper), l.toArray[j]? = some o → dstOK N o.dst = true := fun j o ho => allDst_spec (ops := l.toArray) (by simpa using hd) j o ho
  refine wp_region_lit (runK_sound (K := Q .normal) (N := N) hE hd' (fun s' γ' a' w' h1 h2 h3 => ⟨s', γ', h1, h2, h3⟩) l s γ a w (fun o ho => List.all_eq_true.1 hd o ho) hN hr h)

theorem tri_draw (hE : KnowOK C.P E) (n : Nat) {id : Nat} {l : List Oper} (hd : allDst N l = true) (hB : Region.lexTailB .any l.toArray n = true)
    (h : runQ E l.toArray (l.take n) s fun s' => runK E C.nl l.toArray (l.drop n) s' (Q .normal)) : tri C N (.region id l.toArray true) Q s := by
  refine ⟨fun γ a w hr hN => ?_⟩
  have hd' : ∀ (j : Nat) (o : Oper), l.toArray[j]? = some o → dstOK N o.dst = true := fun j o ho => allDst_spec (ops := l.toArray) (by simpa using hd) j o ho
  exact wp_draw (K := Q .normal) (N := N) hE hd' (fun s' γ' a' w' h1 h2 h3 => ⟨s', γ', h1, h2, h3⟩) hN hr hB (runP_of_runQ _ _ h)

/-! ### Returning -/
def resSV (E : Know) (s : AS) : ResultVar → Prop × SV
  | .tmp t => (True, s.env t)
  | .cell t ty => pv E.G s (.load ty (.tmp t))

/-- The owned results, with their names; an empty one that is nil gets a new name. -/
def ownPairs : Nat → List (Prop × SV) → List RV → List (Nat × RC)
  | j, p :: l, .own rc :: r => (match p.2 with
      | .one (.ref q) => q
      | _ => 1000000 + j, rc) :: ownPairs (j + 1) l r
  | j, _ :: l, .val _ _ :: r => ownPairs (j + 1) l r
  | _, _, _ => []

def freeOf (ids : List Nat) : SV → Prop
  | .one (.ref q) | .one (.refi q _) => q ∉ ids
  | _ => True

def retMatch (s : AS) (nl : Nat) (ids : List Nat) : Nat → List (Prop × SV) → List RV → Prop
  | _, [], [] => True
  | j, p :: l, .val sh x :: r => p.1 ∧ viewSV s sh p.2 = some x ∧ freeOf ids p.2 ∧ retMatch s nl ids (j + 1) l r
  | j, p :: l, .own rc :: r => p.1 ∧ (match p.2 with
      | .one (.ref q) => s.roots q = some rc
      | .one .nils => s.roots (1000000 + j) = none ∧ nl ≤ 1000000 + j ∧ emptyRC rc
      | _ => False) ∧ retMatch s nl ids (j + 1) l r
  | _, _, _ => False

def retOK (E : Know) (nl : Nat) (rs : List ResultVar) (o : Out) (s : AS) : Prop :=
  retMatch s nl ((ownPairs 0 (rs.map (resSV E s)) o.res ++ o.left).map (·.1)) 0 (rs.map (resSV E s)) o.res ∧
  ((ownPairs 0 (rs.map (resSV E s)) o.res ++ o.left).map (·.1)).Nodup ∧ ∀ p ∈ o.left, s.roots p.1 = some p.2 ∧ p.1 < nl

def retQ (E : Know) (nl : Nat) (rs : List ResultVar) (o : Out) : Exit → AS → Prop
  | .normal, s | .ret, s => retOK E nl rs o s
  | _, _ => False

variable {γ : Gam} {a : Act} {w : World}

theorem conv_of_view {sh : Sh} {b : BV} {x : sh.T} (hv : viewBV s sh b = some x) (hf : ∀ q, q ∈ names b → t.roots q = none) : convS s t b (.val sh x) := by
  unfold viewBV at hv
  split at hv
  · obtain ⟨rfl, rfl⟩ := cast_val hv
    exact ⟨rfl, fun r hr => by simp [names] at hr⟩
  · split at hv
    · simp only [Option.some.injEq] at hv
      subst hv
      exact ⟨_, rfl⟩
    · cases hv
  · rename_i r
    refine ⟨hf r (by simp [names]), ?_⟩
    split at hv
    · rename_i e a xs hr
      obtain ⟨rfl, rfl⟩ := cast_val hv
      simp only [hr]
    · rename_i e e2 a xss hr
      obtain ⟨rfl, rfl⟩ := cast_val hv
      simp only [hr]
    · cases hv
  · rename_i r i
    refine ⟨hf r (by simp [names]), ?_⟩
    split at hv
    · rename_i e e2 a xss hr
      split at hv
      · rename_i hi
        obtain ⟨rfl, rfl⟩ := cast_val hv
        simp only [hr]
        exact ⟨hi, trivial⟩
      · cases hv
    · cases hv
  · cases hv

def Still {α : Type} (S : Sem α) : Prop := ∀ (P : Program) (w w' : World) (v : α), S.run P w = .ok v w' → w' = w

theorem Still.pure {α : Type} (x : α) : Still (Pure.pure x : Sem α) := fun P w w' v h => by
  simp only [Sem.run_pure, Result.ok.injEq] at h
  exact h.2.symm

theorem Still.bind {α β : Type} {S : Sem α} {f : α → Sem β} (h1 : Still S) (h2 : ∀ x, Still (f x)) : Still (S >>= f) := by
  intro P w w' v h
  rw [Sem.run_bind] at h
  cases hS : S.run P w with
  | ok x w1 =>
    rw [hS] at h
    simp only [Result.andThen_ok] at h
    have := h1 P w w1 x hS
    subst this
    exact h2 x P _ _ _ h
  | halt x w1 =>
    rw [hS] at h
    simp [Result.andThen] at h

theorem still_load (ad : Addr) : Still (load ad) := by
  intro P w w' v h
  simp only [load, Sem.run] at h
  split at h
  · simp only [Result.ok.injEq] at h; exact h.2.symm
  · split at h
    · simp only [Result.ok.injEq] at h; exact h.2.symm
    · simp at h

theorem still_program : Still program := fun P w w' v h => by
  simp only [program, Sem.run, Result.ok.injEq] at h
  exact h.2.symm

theorem still_stuck {α : Type} (m : String) : Still (stuck m : Sem α) := fun P w w' v h => by
  simp [stuck, Sem.run] at h

theorem still_info (t : TypeId) : Still (typeInfo t) := by
  refine Still.bind still_program fun p => ?_
  cases p.info? t with
  | none => exact still_stuck _
  | some i => exact Still.pure i

theorem still_under (t : TypeId) : Still (underlying t) := by
  refine Still.bind still_program fun p => ?_
  cases p.underlying t with
  | none => exact still_stuck _
  | some i => exact Still.pure i

theorem still_cells (ad : Addr) : ∀ (n i : Nat) (acc : Array Value), Still (loadCellsFrom ad i n acc)
  | 0, _, acc => Still.pure acc
  | n + 1, i, _ => Still.bind (still_load _) fun _ => still_cells ad n (i + 1) _

theorem still_loadVar (t : TypeId) (ad : Addr) : Still (loadVar t ad) := by
  unfold loadVar isAgg sizeOf
  refine Still.bind (Still.bind (still_under t) fun d => ?_) fun b => ?_
  · cases d <;> exact Still.pure _
  · cases b with
    | true => exact Still.bind (Still.bind (still_info t) fun i => Still.pure _) fun n => Still.bind (still_cells ad n 0 #[]) fun cs => Still.pure _
    | false => exact still_load ad

theorem resSV_rep (hE : KnowOK C.P E) (h : Rel C γ s a w) (r : ResultVar) (hc : (resSV E s r).1) : ∃ v, ((match r with
    | .tmp t => pure (a.tmps.getD t undef)
    | .cell x t => do loadVar t (← asAddr (a.tmps.getD x undef)) : Sem Value)).run C.P w = .ok v w ∧ svRep C γ w (resSV E s r).2 v := by
  cases r with
  | tmp t => exact ⟨_, rfl, h.env t⟩
  | cell x ty =>
    obtain ⟨v, w', h1, h2, h3⟩ := pv_sound hE.lang h ⟨none, .load ty (.tmp x), 0, "", #[], none⟩ hc
    have hx : ∃ ad, a.tmps.getD x undef = .pointer (some ad) := by
      have he := h.env x
      simp only [resSV, pv, ev] at hc
      split at hc
      · rename_i hb; rw [hb] at he; obtain ⟨b, off, cs, e1, _⟩ := he; exact ⟨_, e1⟩
      · rename_i hb; rw [hb] at he; obtain ⟨b, off, cs, e1, _⟩ := he; exact ⟨_, e1⟩
      · rename_i hb; rw [hb] at he; obtain ⟨g, n, cap, _, e1⟩ := he; exact ⟨_, e1⟩
      · rename_i hb; rw [hb] at he; obtain ⟨g, n, cap, _, e1⟩ := he; exact ⟨_, e1⟩
      · rename_i hb; rw [hb] at he; exact ⟨_, he⟩
      · rename_i hb; rw [hb] at he; exact ⟨_, he⟩
      · exact hc.elim
    obtain ⟨ad, hx⟩ := hx
    have hl : (loadVar ty ad).run C.P w = .ok v w := by
      have h4 : (do let y ← loadVar ty ad; pure (Next.value y) : Sem Next).run C.P w = .ok (.value v) w' := by
        have h5 : a.eval (.tmp x) = .pointer (some ad) := hx
        simpa only [execOp, Instr.loadAt, Instr.sureAddr, h5, pure_bind] using h1
      rw [Sem.run_bind] at h4
      cases hr : (loadVar ty ad).run C.P w with
      | ok u w1 =>
        rw [hr] at h4
        simp only [Result.andThen_ok, Sem.run_pure, Result.ok.injEq, Next.value.injEq] at h4
        rw [still_loadVar ty ad C.P w w1 u hr, h4.1]
      | halt u w1 =>
        rw [hr] at h4
        simp [Result.andThen] at h4
    have hw : w' = w := by
      have h4 : (do let y ← loadVar ty ad; pure (Next.value y) : Sem Next).run C.P w = .ok (.value v) w' := by
        have h5 : a.eval (.tmp x) = .pointer (some ad) := hx
        simpa only [execOp, Instr.loadAt, Instr.sureAddr, h5, pure_bind] using h1
      exact (Still.bind (still_loadVar ty ad) fun y => Still.pure _) C.P w w' _ h4
    subst hw
    refine ⟨v, ?_, h3⟩
    simp only [hx, asAddr, pure_bind]
    exact hl
end
end Go.VS
