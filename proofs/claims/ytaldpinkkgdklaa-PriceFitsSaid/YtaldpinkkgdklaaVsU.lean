/- Value semantics, part U: how a region is reckoned, one operation behind the other. Over any program; no condition. -/
import Derived.Test.YtaldpinkkgdklaaVsT
namespace Go.VS
open Go.RowKit
set_option linter.unusedSimpArgs false
set_option linter.unusedVariables false

section
variable {E : Know} {nl : Nat} {ops : Array Oper} {s s' : AS} {l : List Oper} {K : AS → Prop} {d : Option Tmp} {op : Op} {ty : TypeId} {pos : String} {af : Array Edge}

def stepA (E : Know) (nl : Nat) (ops : Array Oper) (l : List Oper) (K : AS → Prop) (d : Option Tmp) (r : Prop × AS × SV) : Prop := r.1 ∧ runK E nl ops l (r.2.1.put d r.2.2) K
def stepG (E : Know) (nl : Nat) (ops : Array Oper) (l : List Oper) (K : AS → Prop) (d : Option Tmp) (op : Op) (s : AS) (g : Option Bool) : Prop := match g with
  | some b => (b = true → stepA E nl ops l K d (act E nl s d op)) ∧ (b = false → runK E nl ops l (s.put d skipSV) K)
  | none => False
def guardV (want : Bool) : SV → Option Bool
  | .one (.val .bool b) => some (b == want)
  | .one .skip => some false
  | _ => none
def guardD (ops : Array Oper) (j : Nat) : Option Tmp := (ops[j]?).bind (·.dst)
def guardE (s : AS) (want : Bool) : Option Tmp → Option Bool
  | some dj => guardV want (s.env dj)
  | none => none

theorem runK_nil : runK E nl ops [] s K = K s := rfl
theorem runK_plain : runK E nl ops (⟨d, op, ty, pos, af, none⟩ :: l) s K = stepA E nl ops l K d (act E nl s d op) := by
  apply propext
  simp only [runK, stepK, gate, stepA]
  simp
theorem gate_guard {j : Nat} {want : Bool} : gate ops s ⟨d, op, ty, pos, af, some (j, want)⟩ = guardE s want (guardD ops j) := by
  simp only [gate, guardD]
  cases (ops[j]?).bind (·.dst) with
  | none => rfl
  | some dj =>
    simp only [guardE]
    unfold guardV
    split <;> simp_all
theorem runK_guard {j : Nat} {want : Bool} : runK E nl ops (⟨d, op, ty, pos, af, some (j, want)⟩ :: l) s K = stepG E nl ops l K d op s (guardE s want (guardD ops j)) := by
  apply propext
  simp only [runK, stepK, gate_guard]
  unfold stepG
  cases guardE s want (guardD ops j) <;> rfl
theorem stepA_mk {p : Prop} {v : SV} : stepA E nl ops l K d (p, s, v) = (p ∧ runK E nl ops l (s.put d v) K) := rfl
theorem stepG_true : stepG E nl ops l K d op s (some true) = stepA E nl ops l K d (act E nl s d op) := by simp [stepG]
theorem stepG_false : stepG E nl ops l K d op s (some false) = runK E nl ops l (s.put d skipSV) K := by simp [stepG]
theorem stepG_dec {p : Prop} [Decidable p] : stepG E nl ops l K d op s (some (decide p)) = ((p → stepA E nl ops l K d (act E nl s d op)) ∧ (¬ p → runK E nl ops l (s.put d skipSV) K)) := by simp [stepG]
theorem stepG_ndec {p : Prop} [Decidable p] : stepG E nl ops l K d op s (some (!decide p)) = ((¬ p → stepA E nl ops l K d (act E nl s d op)) ∧ (p → runK E nl ops l (s.put d skipSV) K)) := by simp [stepG]
theorem guardV_bool {want b : Bool} : guardV want (.one (.val .bool b)) = some (b == want) := rfl
theorem guardV_skip {want : Bool} : guardV want (.one .skip) = some false := rfl
theorem guardE_some {want : Bool} {dj : Tmp} : guardE s want (some dj) = guardV want (s.env dj) := rfl

/-! ### The head of a region in any order -/
def stepB (E : Know) (ops : Array Oper) (l : List Oper) (K : AS → Prop) (d : Option Tmp) (s : AS) (r : Prop × SV) : Prop := r.1 ∧ runQ E ops l (s.put d r.2) K
def stepH (E : Know) (ops : Array Oper) (l : List Oper) (K : AS → Prop) (d : Option Tmp) (op : Op) (s : AS) (g : Option Bool) : Prop := match g with
  | some b => (b = true → stepB E ops l K d s (pureAct E s d op)) ∧ (b = false → runQ E ops l (s.put d skipSV) K)
  | none => False
theorem runQ_nil : runQ E ops [] s K = K s := rfl
theorem runQ_plain : runQ E ops (⟨d, op, ty, pos, af, none⟩ :: l) s K = stepB E ops l K d s (pureAct E s d op) := by
  apply propext
  simp only [runQ, gate, stepB]
  simp
theorem runQ_guard {j : Nat} {want : Bool} : runQ E ops (⟨d, op, ty, pos, af, some (j, want)⟩ :: l) s K = stepH E ops l K d op s (guardE s want (guardD ops j)) := by
  apply propext
  simp only [runQ, gate_guard]
  unfold stepH
  cases guardE s want (guardD ops j) <;> rfl
theorem stepB_mk {p : Prop} {v : SV} : stepB E ops l K d s (p, v) = (p ∧ runQ E ops l (s.put d v) K) := rfl
theorem stepH_true : stepH E ops l K d op s (some true) = stepB E ops l K d s (pureAct E s d op) := by simp [stepH]
theorem stepH_false : stepH E ops l K d op s (some false) = runQ E ops l (s.put d skipSV) K := by simp [stepH]
theorem stepH_dec {p : Prop} [Decidable p] : stepH E ops l K d op s (some (decide p)) = ((p → stepB E ops l K d s (pureAct E s d op)) ∧ (¬ p → runQ E ops l (s.put d skipSV) K)) := by simp [stepH]
theorem stepH_ndec {p : Prop} [Decidable p] : stepH E ops l K d op s (some (!decide p)) = ((¬ p → stepB E ops l K d s (pureAct E s d op)) ∧ (p → runQ E ops l (s.put d skipSV) K)) := by simp [stepH]
theorem act_move (x : Operand) : act E nl s d (.move x) = ((pv E.G s (.move x)).1, s, (pv E.G s (.move x)).2) := by cases d <;> rfl
theorem pure_move (x : Operand) : pureAct E s d (.move x) = pv E.G s (.move x) := by cases d <;> rfl
theorem act_assign (x : Operand) : act E nl s d (.assign x) = ((pv E.G s (.assign x)).1, s, (pv E.G s (.assign x)).2) := by cases d <;> rfl
theorem pure_assign (x : Operand) : pureAct E s d (.assign x) = pv E.G s (.assign x) := by cases d <;> rfl
theorem act_pick (c x y : Operand) : act E nl s d (.pick c x y) = ((pv E.G s (.pick c x y)).1, s, (pv E.G s (.pick c x y)).2) := by cases d <;> rfl
theorem pure_pick (c x y : Operand) : pureAct E s d (.pick c x y) = pv E.G s (.pick c x y) := by cases d <;> rfl
theorem act_load (t : TypeId) (x : Operand) : act E nl s d (.load t x) = ((pv E.G s (.load t x)).1, s, (pv E.G s (.load t x)).2) := by cases d <;> rfl
theorem pure_load (t : TypeId) (x : Operand) : pureAct E s d (.load t x) = pv E.G s (.load t x) := by cases d <;> rfl
theorem act_nilCheck (x : Operand) : act E nl s d (.nilCheck x) = ((pv E.G s (.nilCheck x)).1, s, (pv E.G s (.nilCheck x)).2) := by cases d <;> rfl
theorem pure_nilCheck (x : Operand) : pureAct E s d (.nilCheck x) = pv E.G s (.nilCheck x) := by cases d <;> rfl
theorem act_binOp (o : BinOp) (t : TypeId) (x y : Operand) (u : TypeId) : act E nl s d (.binOp o t x y u) = ((pv E.G s (.binOp o t x y u)).1, s, (pv E.G s (.binOp o t x y u)).2) := by cases d <;> rfl
theorem pure_binOp (o : BinOp) (t : TypeId) (x y : Operand) (u : TypeId) : pureAct E s d (.binOp o t x y u) = pv E.G s (.binOp o t x y u) := by cases d <;> rfl
theorem act_unOp (o : UnOp) (t : TypeId) (x : Operand) : act E nl s d (.unOp o t x) = ((pv E.G s (.unOp o t x)).1, s, (pv E.G s (.unOp o t x)).2) := by cases d <;> rfl
theorem pure_unOp (o : UnOp) (t : TypeId) (x : Operand) : pureAct E s d (.unOp o t x) = pv E.G s (.unOp o t x) := by cases d <;> rfl
theorem act_convert (a b : TypeId) (x : Operand) : act E nl s d (.convert a b x) = ((pv E.G s (.convert a b x)).1, s, (pv E.G s (.convert a b x)).2) := by cases d <;> rfl
theorem pure_convert (a b : TypeId) (x : Operand) : pureAct E s d (.convert a b x) = pv E.G s (.convert a b x) := by cases d <;> rfl
theorem act_fieldAddr (t : TypeId) (x : Operand) (f : Nat) : act E nl s d (.fieldAddr t x f) = ((pv E.G s (.fieldAddr t x f)).1, s, (pv E.G s (.fieldAddr t x f)).2) := by cases d <;> rfl
theorem pure_fieldAddr (t : TypeId) (x : Operand) (f : Nat) : pureAct E s d (.fieldAddr t x f) = pv E.G s (.fieldAddr t x f) := by cases d <;> rfl
theorem act_field (t : TypeId) (x : Operand) (f : Nat) : act E nl s d (.field t x f) = ((pv E.G s (.field t x f)).1, s, (pv E.G s (.field t x f)).2) := by cases d <;> rfl
theorem pure_field (t : TypeId) (x : Operand) (f : Nat) : pureAct E s d (.field t x f) = pv E.G s (.field t x f) := by cases d <;> rfl
theorem act_indexAddr (t : TypeId) (x i : Operand) : act E nl s d (.indexAddr t x i) = ((pv E.G s (.indexAddr t x i)).1, s, (pv E.G s (.indexAddr t x i)).2) := by cases d <;> rfl
theorem pure_indexAddr (t : TypeId) (x i : Operand) : pureAct E s d (.indexAddr t x i) = pv E.G s (.indexAddr t x i) := by cases d <;> rfl
theorem act_index (t : TypeId) (x i : Operand) : act E nl s d (.index t x i) = ((pv E.G s (.index t x i)).1, s, (pv E.G s (.index t x i)).2) := by cases d <;> rfl
theorem pure_index (t : TypeId) (x i : Operand) : pureAct E s d (.index t x i) = pv E.G s (.index t x i) := by cases d <;> rfl
theorem act_slice (t : TypeId) (x : Operand) (a b c : Option Operand) : act E nl s d (.slice t x a b c) = ((pv E.G s (.slice t x a b c)).1, s, (pv E.G s (.slice t x a b c)).2) := by cases d <;> rfl
theorem pure_slice (t : TypeId) (x : Operand) (a b c : Option Operand) : pureAct E s d (.slice t x a b c) = pv E.G s (.slice t x a b c) := by cases d <;> rfl
theorem act_extract (x : Operand) (i : Nat) : act E nl s d (.extract x i) = ((pv E.G s (.extract x i)).1, s, (pv E.G s (.extract x i)).2) := by cases d <;> rfl
theorem pure_extract (x : Operand) (i : Nat) : pureAct E s d (.extract x i) = pv E.G s (.extract x i) := by cases d <;> rfl
theorem act_build (t : TypeId) (ps : Array (Nat × Operand)) : act E nl s d (.build t ps) = ((pv E.G s (.build t ps)).1, s, (pv E.G s (.build t ps)).2) := by cases d <;> rfl
theorem pure_build (t : TypeId) (ps : Array (Nat × Operand)) : pureAct E s d (.build t ps) = pv E.G s (.build t ps) := by cases d <;> rfl
theorem act_makeFunc (f : Fn) (a b : Array Operand) : act E nl s d (.makeFunc f a b) = ((pv E.G s (.makeFunc f a b)).1, s, (pv E.G s (.makeFunc f a b)).2) := by cases d <;> rfl
theorem pure_makeFunc (f : Fn) (a b : Array Operand) : pureAct E s d (.makeFunc f a b) = pv E.G s (.makeFunc f a b) := by cases d <;> rfl
theorem act_len (args : Array Operand) (ats : Array TypeId) : act E nl s d (.call { callee := .builtin .len, args := args, argTypes := ats }) = ((pv E.G s (.call { callee := .builtin .len, args := args, argTypes := ats })).1, s, (pv E.G s (.call { callee := .builtin .len, args := args, argTypes := ats })).2) := by cases d <;> rfl
theorem pure_len (args : Array Operand) (ats : Array TypeId) : pureAct E s d (.call { callee := .builtin .len, args := args, argTypes := ats }) = pv E.G s (.call { callee := .builtin .len, args := args, argTypes := ats }) := by cases d <;> rfl
theorem act_min (args : Array Operand) (ats : Array TypeId) : act E nl s d (.call { callee := .builtin .min, args := args, argTypes := ats }) = ((pv E.G s (.call { callee := .builtin .min, args := args, argTypes := ats })).1, s, (pv E.G s (.call { callee := .builtin .min, args := args, argTypes := ats })).2) := by cases d <;> rfl
theorem pure_min (args : Array Operand) (ats : Array TypeId) : pureAct E s d (.call { callee := .builtin .min, args := args, argTypes := ats }) = pv E.G s (.call { callee := .builtin .min, args := args, argTypes := ats }) := by cases d <;> rfl
theorem act_max (args : Array Operand) (ats : Array TypeId) : act E nl s d (.call { callee := .builtin .max, args := args, argTypes := ats }) = ((pv E.G s (.call { callee := .builtin .max, args := args, argTypes := ats })).1, s, (pv E.G s (.call { callee := .builtin .max, args := args, argTypes := ats })).2) := by cases d <;> rfl
theorem pure_max (args : Array Operand) (ats : Array TypeId) : pureAct E s d (.call { callee := .builtin .max, args := args, argTypes := ats }) = pv E.G s (.call { callee := .builtin .max, args := args, argTypes := ats }) := by cases d <;> rfl
theorem act_append (args : Array Operand) (ats : Array TypeId) : act E nl s d (.call { callee := .builtin .append, args := args, argTypes := ats }) = ef E.G nl s d (.call { callee := .builtin .append, args := args, argTypes := ats }) := by cases d <;> rfl
theorem act_store (t : TypeId) (x y : Operand) : act E nl s d (.store t x y) = ef E.G nl s d (.store t x y) := by cases d <;> rfl
/-- A slice that is made: named at once, or later. -/
def mkS (b : Bool) (E : Know) (nl : Nat) (s : AS) (d : Tmp) (op : Op) : Prop × AS × SV := match b with
  | true => ((mkV E.G s (some d) op).1, s, (mkV E.G s (some d) op).2)
  | false => ef E.G nl s (some d) op
def mkP (b : Bool) (E : Know) (s : AS) (d : Tmp) (op : Op) : Prop × SV := match b with
  | true => mkV E.G s (some d) op
  | false => bad
theorem act_makeSlice {k : Tmp} (t : TypeId) (x y : Operand) : act E nl s (some k) (.makeSlice t x y) = mkS (E.own.elem k) E nl s k (.makeSlice t x y) := by
  have h : mkOp E (some k) (.makeSlice t x y) = E.own.elem k := rfl
  unfold act mkS
  rw [h]
  cases E.own.elem k <;> rfl
theorem mkS_true {k : Tmp} : mkS true E nl s k op = ((mkV E.G s (some k) op).1, s, (mkV E.G s (some k) op).2) := rfl
theorem mkS_false {k : Tmp} : mkS false E nl s k op = ef E.G nl s (some k) op := rfl
theorem pure_makeSlice {k : Tmp} (t : TypeId) (x y : Operand) : pureAct E s (some k) (.makeSlice t x y) = mkP (E.own.elem k) E s k (.makeSlice t x y) := by
  have h : mkOp E (some k) (.makeSlice t x y) = E.own.elem k := rfl
  unfold pureAct mkP
  rw [h]
  cases E.own.elem k <;> rfl
theorem mkP_true {k : Tmp} : mkP true E s k op = mkV E.G s (some k) op := rfl
theorem act_alloc (t : TypeId) : act E nl s d (.alloc t) = ef E.G nl s d (.alloc t) := by cases d <;> rfl
theorem act_box (t : TypeId) (x : Operand) : act E nl s d (.box t x) = ef E.G nl s d (.box t x) := by cases d <;> rfl
theorem act_callv (x : Operand) (args : Array Operand) (ats : Array TypeId) : act E nl s d (.call { callee := .value x, args := args, argTypes := ats }) = callOp E nl s d (.call { callee := .value x, args := args, argTypes := ats }) := by cases d <;> rfl
theorem pure_callv (x : Operand) (args : Array Operand) (ats : Array TypeId) : pureAct E s d (.call { callee := .value x, args := args, argTypes := ats }) = pureCall E s d (.call { callee := .value x, args := args, argTypes := ats }) := by cases d <;> rfl
theorem act_lit {k : Tmp} (t : TypeId) (n : Nat) (ps : Array (Nat × Operand)) (h : E.own.elem k = false) : act E nl s (some k) (.buildSlice t n ps) = ((pv E.G s (.buildSlice t n ps)).1, s, (pv E.G s (.buildSlice t n ps)).2) := by simp only [act, mkOp, actO, writes, ownLit, h, Bool.or_false, calls]
theorem act_litOwn {k : Tmp} (t : TypeId) (n : Nat) (ps : Array (Nat × Operand)) (h : E.own.elem k = true) : act E nl s (some k) (.buildSlice t n ps) = ef E.G nl s (some k) (.buildSlice t n ps) := by simp only [act, mkOp, actO, writes, ownLit, h, Bool.or_true]
theorem pure_lit {k : Tmp} (t : TypeId) (n : Nat) (ps : Array (Nat × Operand)) (h : E.own.elem k = false) : pureAct E s (some k) (.buildSlice t n ps) = pv E.G s (.buildSlice t n ps) := by simp only [pureAct, mkOp, pureActO, writes, ownLit, h, Bool.or_false, calls]
end
/-- A region in any order: all but its last k operations write nothing. -/
theorem tri_drawK {C : Ctx} {N : Nat} {Q : Exit → AS → Prop} {s : AS} {E : Know} (hE : KnowOK C.P E) (k : Nat) {id : Nat} {l : List Oper} (hd : allDst N l = true) (hB : Region.lexTailB .any l.toArray (l.length - k) = true)
    (h : runQ E l.toArray (l.take (l.length - k)) s fun s' => runK E C.nl l.toArray (l.drop (l.length - k)) s' (Q .normal)) : tri C N (.region id l.toArray true) Q s := tri_draw hE _ hd hB h

theorem boxable_val {s : Sh} {x : s.T} : ((BV.val s x).single = true ∨ ∃ sh y, BV.val s x = .val sh y) = True := eq_true (.inr ⟨s, x, rfl⟩)

def litS (b : Bool) (E : Know) (nl : Nat) (s : AS) (k : Tmp) (op : Op) : Prop × AS × SV := match b with
  | true => ef E.G nl s (some k) op
  | false => ((pv E.G s op).1, s, (pv E.G s op).2)
theorem act_litS {E : Know} {nl : Nat} {s : AS} {k : Tmp} {t : TypeId} {n : Nat} {ps : Array (Nat × Operand)} : act E nl s (some k) (.buildSlice t n ps) = litS (E.own.elem k) E nl s k (.buildSlice t n ps) := by
  cases h : E.own.elem k with
  | true => rw [act_litOwn t n ps h]; rfl
  | false => rw [act_lit t n ps h]; rfl
theorem litS_true {E : Know} {nl : Nat} {s : AS} {k : Tmp} {op : Op} : litS true E nl s k op = ef E.G nl s (some k) op := rfl
theorem litS_false {E : Know} {nl : Nat} {s : AS} {k : Tmp} {op : Op} : litS false E nl s k op = ((pv E.G s op).1, s, (pv E.G s op).2) := rfl
theorem allVals_cons {sh : Sh} {x : sh.T} {l : List SV} : allVals sh (.one (.val sh x) :: l) = (allVals sh l).map (x :: ·) := by simp [allVals]
theorem allVals_nil {sh : Sh} : allVals sh [] = some [] := rfl

def litP (b : Bool) (E : Know) (s : AS) (op : Op) : Prop × SV := match b with
  | true => bad
  | false => pv E.G s op
theorem pure_litS {E : Know} {s : AS} {k : Tmp} {t : TypeId} {n : Nat} {ps : Array (Nat × Operand)} : pureAct E s (some k) (.buildSlice t n ps) = litP (E.own.elem k) E s (.buildSlice t n ps) := by
  cases h : E.own.elem k with
  | true => simp only [pureAct, mkOp, pureActO, writes, ownLit, h, Bool.or_true]; rfl
  | false => rw [pure_lit t n ps h]; rfl
theorem litP_false {E : Know} {s : AS} {op : Op} : litP false E s op = pv E.G s op := rfl

end Go.VS
