/- Value semantics, part P: one operation, whatever it is; regions whose operations come in order. Over any program; no condition. -/
import Derived.Test.YtaldpinkkgdklaaVsY
import Derived.Tactics
namespace Go.VS
open Go.RowKit
set_option linter.unusedSimpArgs false
set_option linter.unusedVariables false

def writes : Op → Bool
  | .store .. | .makeSlice .. | .alloc _ | .box .. => true
  | .call { callee := .builtin .append, .. } => true
  | _ => false

/-- A list that is written out and that the function goes on to change: 'E.own' names its place. -/
def ownLit (E : Know) : Option Tmp → Op → Bool
  | some d, .buildSlice .. => E.own.elem d
  | _, _ => false

def calls : Op → Bool
  | .call { callee := .value _, .. } => true
  | _ => false

/-- A call of a closure that calls itself. -/
def callR (c : Rec) (s : AS) (f : FuncId) (caps : List Nat) (svs : List SV) : Prop × AS × SV :=
  match caps.drop c.ante.length with
  | R :: l => match s.boxes R with
    | some (.one (.fn g caps')) => match viewCaps s c.ante (caps.take c.ante.length), viewCaps s c.post l, viewSVs s c.as svs with
      | some y1, some y2, some x => (g = f ∧ caps' = caps ∧ c.q y1 y2 x, s, .one (.val c.r (c.p y1 y2 x)))
      | _, _, _ => badE s
    | _ => badE s
  | [] => badE s

/-- A call of a closure of the same function. -/
def callC (E : Know) (s : AS) (f : FuncId) (caps : List Nat) (svs : List SV) : Prop × AS × SV :=
  match E.K f with
  | some c => match viewCaps s c.caps caps, viewSVs s c.as svs with
    | some y, some x => (c.q y x ∧ c.r.flat = true, s, .one (.val c.r (c.p y x)))
    | _, _ => badE s
  | none => match E.R f with
    | some c => callR c s f caps svs
    | none => badE s

def callOp (E : Know) (nl : Nat) (s : AS) (dst : Option Tmp) : Op → Prop × AS × SV
  | .call { callee := .value x, args, .. } => match ev s x with
    | .one (.fn f []) => callF E nl s dst f (args.toList.map (ev s))
    | .one (.fn f (b :: bs)) => callC E s f (b :: bs) (args.toList.map (ev s))
    | .one (.fnv as r q p) => callV s (args.toList.map (ev s)) as r q p
    | _ => badE s
  | _ => badE s

def actO (E : Know) (nl : Nat) (s : AS) (dst : Option Tmp) (op : Op) : Prop × AS × SV :=
  match writes op || ownLit E dst op with
  | true => ef E.G nl s dst op
  | false => match calls op with
    | true => callOp E nl s dst op
    | false => ((pv E.G s op).1, s, (pv E.G s op).2)

/-- A slice that is made where the order is open: 'E.own' names its place. -/
def mkOp (E : Know) : Option Tmp → Op → Bool
  | some d, .makeSlice .. => E.own.elem d
  | _, _ => false

def mkV (G : Lang) (s : AS) (dst : Option Tmp) : Op → Prop × SV
  | .makeSlice t l c => match dst, ev s l, ev s c, G.sh t with
    | some d, .one (.val .int n), .one (.val .int m), some (.sl sh) => ((n : Int) = m ∧ cutOK n 1000000 ∧ sh.flat = true, .one (.mk d (G.el t) sh (List.replicate (Int.toNat n) sh.zero)))
    | _, _, _, _ => bad
  | _ => bad

/-- One operation: its condition, the state behind it, what it yields. -/
def act (E : Know) (nl : Nat) (s : AS) (dst : Option Tmp) (op : Op) : Prop × AS × SV :=
  match mkOp E dst op with
  | true => ((mkV E.G s dst op).1, s, (mkV E.G s dst op).2)
  | false => actO E nl s dst op

/-- What the guard of an operation says: 'none' if it cannot be told. -/
def gate (ops : Array Oper) (s : AS) (o : Oper) : Option Bool := match o.guard with
  | none => some true
  | some (j, want) => match (ops[j]?).bind (·.dst) with
    | some dj => match s.env dj with
      | .one (.val .bool b) => some (b == want)
      | .one .skip => some false
      | _ => none
    | none => none

abbrev skipSV : SV := .one .skip

def stepK (E : Know) (nl : Nat) (ops : Array Oper) (s : AS) (o : Oper) (K : AS → Prop) : Prop := match gate ops s o with
  | some b => (b = true → (act E nl s o.dst o.op).1 ∧ K ((act E nl s o.dst o.op).2.1.put o.dst (act E nl s o.dst o.op).2.2)) ∧ (b = false → K (s.put o.dst skipSV))
  | none => False

def runK (E : Know) (nl : Nat) (ops : Array Oper) : List Oper → AS → (AS → Prop) → Prop
  | [], s, K => K s
  | o :: l, s, K => stepK E nl ops s o fun s' => runK E nl ops l s' K

section
variable {C : Ctx} {E : Know} {γ : Gam} {s : AS} {a : Act} {w : World} {ops : Array Oper}

theorem args_rep (h : Rel C γ s a w) (args : Array Operand) : (args.toList.map (ev s)).length = (args.map a.eval).toList.length ∧
    ∀ (i : Nat) (sv : SV) (v : Value), (args.toList.map (ev s))[i]? = some sv → (args.map a.eval).toList[i]? = some v → svRep C γ w sv v := by
  refine ⟨by simp, fun i sv v h1 h2 => ?_⟩
  rw [List.getElem?_map, Option.map_eq_some_iff] at h1
  rw [Array.toList_map, List.getElem?_map, Option.map_eq_some_iff] at h2
  obtain ⟨o, e1, rfl⟩ := h1
  obtain ⟨o', e2, rfl⟩ := h2
  rw [e1] at e2
  simp only [Option.some.injEq] at e2
  subst e2
  exact ev_rep h o

theorem callR_sound {f : FuncId} {c : Rec} (hs : RecSpec C.P f c) (h : Rel C γ s a w) {caps : List Nat} (svs : List SV) (vs : List Value) (hl : svs.length = vs.length)
    (hr : ∀ (i : Nat) (sv : SV) (v : Value), svs[i]? = some sv → vs[i]? = some v → svRep C γ w sv v) (hok : (callR c s f caps svs).1) :
    Callable C.P f ∧ Calls C.P f (vs.toArray ++ (caps.map fun b => Value.pointer (some ⟨γ.bx b, 0, none⟩)).toArray) w (fun e w' => ∃ v γ2, e = .returned v ∧ Rel C γ2 (callR c s f caps svs).2.1 a w' ∧ svRep C γ2 w' (callR c s f caps svs).2.2 v) := by
  unfold callR at hok ⊢
  cases hcaps : caps.drop c.ante.length with
  | nil => rw [hcaps] at hok; exact hok.elim
  | cons R l =>
    rw [hcaps] at hok
    simp only at hok ⊢
    cases hb : s.boxes R with
    | none => rw [hb] at hok; exact hok.elim
    | some sv =>
      rw [hb] at hok
      split at hok
      · rename_i g caps' hsv
        simp only [Option.some.injEq] at hsv
        subst hsv
        cases e1 : viewCaps s c.ante (caps.take c.ante.length) with
        | none => rw [e1] at hok; exact hok.elim
        | some y1 =>
          cases e2 : viewCaps s c.post l with
          | none => rw [e1, e2] at hok; exact hok.elim
          | some y2 =>
            cases e3 : viewSVs s c.as svs with
            | none => rw [e1, e2, e3] at hok; exact hok.elim
            | some x =>
              rw [e1, e2, e3] at hok
              simp only at hok ⊢
              obtain ⟨rfl, rfl, hq⟩ := hok
              refine ⟨hs.callable, ?_⟩
              obtain ⟨cs, tt, d1, ⟨v, d2, d2'⟩, d3, d4, d5⟩ := h.boxes R _ hb
              simp only [bvRep] at d2
              have hcells : cs.toList = [v] := by rw [d2', d2]; rfl
              have hsplit : caps' = caps'.take c.ante.length ++ R :: l := by rw [← hcaps]; exact (List.take_append_drop _ _).symm
              let pt : Nat → Value := fun b => Value.pointer (some ⟨γ.bx b, 0, none⟩)
              have hmap : caps'.map pt = (caps'.take c.ante.length).map pt ++ pt R :: l.map pt := by
                have := congrArg (List.map pt) hsplit
                rwa [List.map_append, List.map_cons] at this
              have hcell : w.cell? ⟨γ.bx R, 0, none⟩ = some (.func (.func g) #[] ((caps'.take c.ante.length).map pt ++ pt R :: l.map pt).toArray) := by
                rw [cell_of_row w _ 0 cs tt (0, 0) d1]
                have h0 : cs.toList[0]? = some v := by rw [hcells]; rfl
                have h1 : cs[0]? = some v := by simpa using h0
                rw [h1, d2, ← hmap]
              have := hs.run w (fun _ => True) y1 y2 x _ _ vs (γ.bx R) 0 hq (viewCaps_rep h c.ante _ y1 e1) (viewCaps_rep h c.post _ y2 e2) (viewSVs_rep h c.as svs vs x e3 hl hr (.inl fun _ => trivial)) (h.ownlt _ _ d4) hcell
              have e : (vs ++ ((caps'.take c.ante.length).map pt ++ pt R :: l.map pt)).toArray = vs.toArray ++ (caps'.map pt).toArray := by rw [hmap]; simp
              rw [e] at this
              refine this.mono fun e w2 hx => ?_
              obtain ⟨u, h1, h2, h3⟩ := hx
              exact ⟨u, γ, h1, h.world h3, vrep_flat hs.flat h2⟩
      · exact hok.elim

theorem callC_sound (hE : KnowOK C.P E) (h : Rel C γ s a w) {f : FuncId} {caps : List Nat} (svs : List SV) (vs : List Value) (hl : svs.length = vs.length)
    (hr : ∀ (i : Nat) (sv : SV) (v : Value), svs[i]? = some sv → vs[i]? = some v → svRep C γ w sv v) (hok : (callC E s f caps svs).1) :
    Callable C.P f ∧ Calls C.P f (vs.toArray ++ (caps.map fun b => Value.pointer (some ⟨γ.bx b, 0, none⟩)).toArray) w (fun e w' => ∃ v γ2, e = .returned v ∧ Rel C γ2 (callC E s f caps svs).2.1 a w' ∧ svRep C γ2 w' (callC E s f caps svs).2.2 v) := by
  unfold callC at hok ⊢
  cases hK : E.K f with
  | none =>
    rw [hK] at hok
    simp only at hok ⊢
    cases hR : E.R f with
    | none => rw [hR] at hok; exact hok.elim
    | some c =>
      rw [hR] at hok
      simp only at hok ⊢
      exact callR_sound (hE.self f c hR) h svs vs hl hr hok
  | some c =>
    rw [hK] at hok
    simp only at hok ⊢
    cases hy : viewCaps s c.caps caps with
    | none => rw [hy] at hok; exact hok.elim
    | some y =>
      cases hx : viewSVs s c.as svs with
      | none => rw [hy, hx] at hok; exact hok.elim
      | some x =>
        rw [hy, hx] at hok
        simp only at hok ⊢
        have hs := hE.clo f c hK
        refine ⟨hs.callable, ?_⟩
        have := hs.run w (fun _ => True) y x _ vs hok.1 (viewCaps_rep h c.caps caps y hy) (viewSVs_rep h c.as svs vs x hx hl hr (.inl fun _ => trivial))
        have e : (vs ++ caps.map fun b => Value.pointer (some ⟨γ.bx b, 0, none⟩)).toArray = vs.toArray ++ (caps.map fun b => Value.pointer (some ⟨γ.bx b, 0, none⟩)).toArray := by simp
        rw [← e]
        refine this.mono fun e w2 hx => ?_
        obtain ⟨u, h1, h2, h3⟩ := hx
        exact ⟨u, γ, h1, h.world h3, vrep_flat hok.2 h2⟩

/-- **One operation.** -/
theorem actO_sound (hE : KnowOK C.P E) (h : Rel C γ s a w) (o : Oper) (hok : (actO E C.nl s o.dst o.op).1) {next : Act → World → Prop} {Q : Exit → Act → World → Prop}
    (hn : ∀ v w' γ', Rel C γ' (actO E C.nl s o.dst o.op).2.1 a w' → svRep C γ' w' (actO E C.nl s o.dst o.op).2.2 v → next (a.put o.dst v) w') : o.wp C.P a w next Q := by
  unfold Oper.wp
  unfold actO at hok hn
  cases hw : writes o.op || ownLit E o.dst o.op with
  | true =>
    rw [hw] at hok hn
    obtain ⟨v, w', γ', h1, h2, h3⟩ := ef_sound (N := 0) hE.lang h o hok
    rcases h1 with h1 | ⟨h1, rfl⟩
    · rw [h1]; exact hn v w' γ' h2 h3
    · rw [h1]; exact hn undef w' γ' h2 h3
  | false =>
    rw [hw] at hok hn
    cases hc : calls o.op with
    | false =>
      rw [hc] at hok hn
      obtain ⟨v, w', h1, h2, h3⟩ := pv_sound hE.lang h o hok
      rw [h1]
      exact hn v w' γ (h.world h2) h3
    | true =>
      rw [hc] at hok hn
      obtain ⟨d, op, ty, pos, af, gd⟩ := o
      cases op with
      | call c =>
        obtain ⟨callee, args, ats⟩ := c
        cases callee with
        | builtin b => simp [calls] at hc
        | invoke r m => simp [calls] at hc
        | value x =>
          simp only [callOp] at hok hn
          obtain ⟨hl, hr⟩ := args_rep h args
          have hx := ev_rep h x
          split at hok
          · rename_i f he
            rw [he] at hx
            simp only [svRep, bvRep, List.map_nil] at hx
            simp only [he] at hn
            obtain ⟨k1, k2⟩ := callF_sound hE h d f _ _ hl hr hok
            rw [exec_call k1 hx args ats d ty pos af gd w]
            simp only [Oper.upon]
            have e : (args.map a.eval).toList.toArray = args.map a.eval ++ #[] := by rw [Array.toArray_toList, Array.append_empty]
            rw [e] at k2
            refine k2.mono fun en w' hh => ?_
            obtain ⟨v, γ2, rfl, h2, h3⟩ := hh
            exact hn v w' γ2 h2 h3
          · rename_i f b bs he
            rw [he] at hx
            simp only [svRep, bvRep] at hx
            simp only [he] at hn
            obtain ⟨k1, k2⟩ := callC_sound hE h _ _ hl hr hok
            rw [exec_call k1 hx args ats d ty pos af gd w]
            simp only [Oper.upon]
            rw [Array.toArray_toList] at k2
            refine k2.mono fun en w' hh => ?_
            obtain ⟨v, γ2, rfl, h2, h3⟩ := hh
            exact hn v w' γ2 h2 h3
          · rename_i as r q p he
            rw [he] at hx
            simp only [he] at hn
            obtain ⟨f, caps, k0, k1, k2⟩ := callV_sound h hx _ _ hl hr hok
            rw [exec_call k1 k0 args ats d ty pos af gd w]
            simp only [Oper.upon]
            rw [Array.toArray_toList] at k2
            refine k2.mono fun en w' hh => ?_
            obtain ⟨v, γ2, rfl, h2, h3⟩ := hh
            exact hn v w' γ2 h2 h3
          · exact hok.elim
      | _ => simp [calls] at hc

theorem act_sound (hE : KnowOK C.P E) (h : Rel C γ s a w) (o : Oper) (hok : (act E C.nl s o.dst o.op).1) {next : Act → World → Prop} {Q : Exit → Act → World → Prop}
    (hn : ∀ v w' γ', Rel C γ' (act E C.nl s o.dst o.op).2.1 a w' → svRep C γ' w' (act E C.nl s o.dst o.op).2.2 v → next (a.put o.dst v) w') : o.wp C.P a w next Q := by
  unfold act at hok hn
  cases hm : mkOp E o.dst o.op with
  | false =>
    rw [hm] at hok hn
    exact actO_sound hE h o hok hn
  | true =>
    rw [hm] at hok hn
    obtain ⟨d, op, ty, pos, af, gd⟩ := o
    simp only at hok hn hm
    cases op <;> simp only [mkV] at hok hn <;> try exact hok.elim
    rename_i t l c
    split at hok
    · rename_i d' n m sh e1 e2 e3
      obtain ⟨rfl, h2, h3⟩ := hok
      simp only [e1, e2, e3] at hn
      obtain ⟨v, w', γ', k1, k2, k3⟩ := w_mk_flat hE.lang h (dd := some d') (ty := ty) (pos := pos) (af := af) (gd := gd) (d := d') e1 e2 e3 h2 h3
      unfold Oper.wp
      rw [k1]
      exact hn v w' γ' k2 k3
    · exact hok.elim


/-- What the guard says is so. -/
theorem gate_sound (h : Rel C γ s a w) (hd : ∀ (j : Nat) (o : Oper), ops[j]? = some o → dstOK a.tmps.size o.dst = true) {o : Oper} {b : Bool} (hg : gate ops s o = some b) : Region.wanted o (yielded ops a.tmps) = b := by
  unfold gate at hg
  unfold Region.wanted
  split at hg
  · rename_i e
    rw [e]
    simpa using hg
  · rename_i j want e
    rw [e]
    simp only
    split at hg
    · rename_i dj hdj
      have hlt : dj < a.tmps.size := by
        cases ho : ops[j]? with
        | none => rw [ho] at hdj; simp at hdj
        | some oj =>
          rw [ho] at hdj
          simp only [Option.bind_some] at hdj
          have := hd j oj ho
          rw [hdj] at this
          simpa [dstOK] using this
      have hget : a.tmps[dj]? = some (a.tmps.getD dj undef) := by simp [Array.getD_eq_getD_getElem?, hlt]
      have he := h.env dj
      split at hg
      · rename_i b' hb
        rw [hb] at he
        obtain ⟨cs, h1, h2⟩ := he
        simp only [pers] at h1
        subst h1
        have h2' : a.tmps.getD dj undef = .bool b' := h2
        simp only [yielded, hdj, Option.bind_some, hget, h2']
        simp only [Option.some.injEq] at hg
        subst hg
        cases b' <;> cases want <;> rfl
      · rename_i hb
        rw [hb] at he
        have h2' : a.tmps.getD dj undef = undef := he
        simp only [yielded, hdj, Option.bind_some, hget, h2']
        simp only [Option.some.injEq] at hg
        subst hg
        cases want <;> rfl
      · cases hg
    · cases hg

theorem stepK_sound (hE : KnowOK C.P E) (h : Rel C γ s a w) (hd : ∀ (j : Nat) (o : Oper), ops[j]? = some o → dstOK a.tmps.size o.dst = true) {o : Oper} (ho : dstOK a.tmps.size o.dst = true) {K : AS → Prop} (hk : stepK E C.nl ops s o K)
    {next : Act → World → Prop} {Q : Exit → Act → World → Prop} (hn : ∀ s' γ' a' w', Rel C γ' s' a' w' → a'.tmps.size = a.tmps.size → K s' → next a' w') :
    if Region.wanted o (yielded ops a.tmps) then o.wp C.P a w next Q else next (a.put o.dst undef) w := by
  unfold stepK at hk
  split at hk
  · rename_i b hg
    rw [gate_sound h hd hg]
    cases b with
    | true =>
      simp only [if_true]
      have hk := hk.1 rfl
      exact act_sound hE h o hk.1 fun v w' γ' h1 h2 => hn _ γ' _ w' (h1.put ho h2) (put_size a o.dst v) hk.2
    | false =>
      simp only [Bool.false_eq_true, if_false]
      exact hn _ γ _ w (h.put ho (sv := skipSV) (v := undef) rfl) (put_size a o.dst undef) (hk.2 rfl)
  · exact hk.elim

theorem runK_sound (hE : KnowOK C.P E) {Q : Exit → Act → World → Prop} {K : AS → Prop} {N : Nat} (hd : ∀ (j : Nat) (o : Oper), ops[j]? = some o → dstOK N o.dst = true)
    (hQ : ∀ s' γ' a' w', Rel C γ' s' a' w' → a'.tmps.size = N → K s' → Q .normal a' w') : ∀ (l : List Oper) (s : AS) (γ : Gam) (a : Act) (w : World), (∀ o ∈ l, dstOK N o.dst = true) → a.tmps.size = N → Rel C γ s a w →
    runK E C.nl ops l s K → wpList C.P ops Q l a w
  | [], s, γ, a, w, _, hN, h, hk => hQ s γ a w h hN hk
  | o :: l, s, γ, a, w, hl, hN, h, hk => by
    refine wpList_step fun K' hK' => ?_
    subst hN
    exact stepK_sound hE h hd (hl o (by simp)) hk fun s' γ' a' w' h1 h2 h3 => hK' _ _ (runK_sound hE hd hQ l s' γ' a' w' (fun o ho => hl o (by simp [ho])) h2 h1 h3)

end
end Go.VS
