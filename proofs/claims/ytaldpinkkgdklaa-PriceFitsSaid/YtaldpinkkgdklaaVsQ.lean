/- Value semantics, part Q: regions whose operations come in any order: if the first ones write nothing, one order serves for all. Over any program; no condition. -/
import Derived.Test.YtaldpinkkgdklaaVsP
import Derived.StillTail
namespace Go.VS
open Go.RowKit
set_option linter.unusedSimpArgs false
set_option linter.unusedVariables false

def pureCall (E : Know) (s : AS) (dst : Option Tmp) : Op → Prop × SV
  | .call { callee := .value x, args, .. } => match ev s x with
    | .one (.fn f []) => match E.T f with
      | some c => match viewAs E s c.as (args.toList.map (ev s)) with
        | some y => (c.pre y ∧ resRoots (dst.getD 0) 0 (c.post y).res = [], packSV (resBVs (dst.getD 0) ((args.toList.map (ev s)).all strictSV) 0 (c.post y).res))
        | none => bad
      | none => bad
    | .one (.fn f (b :: bs)) => ((callC E s f (b :: bs) (args.toList.map (ev s))).1, (callC E s f (b :: bs) (args.toList.map (ev s))).2.2)
    | .one (.fnv as r q p) => ((callV s (args.toList.map (ev s)) as r q p).1, (callV s (args.toList.map (ev s)) as r q p).2.2)
    | _ => bad
  | _ => bad

def pureActO (E : Know) (s : AS) (dst : Option Tmp) (op : Op) : Prop × SV :=
  match writes op || ownLit E dst op with
  | true => bad
  | false => match calls op with
    | true => pureCall E s dst op
    | false => pv E.G s op

def pureAct (E : Know) (s : AS) (dst : Option Tmp) (op : Op) : Prop × SV :=
  match mkOp E dst op with
  | true => mkV E.G s dst op
  | false => pureActO E s dst op

def pStep (E : Know) (ops : Array Oper) (s : AS) (o : Oper) : Prop × SV := match gate ops s o with
  | some true => pureAct E s o.dst o.op
  | some false => (True, skipSV)
  | none => bad

def runP (E : Know) (ops : Array Oper) : List Oper → AS → (AS → Prop) → Prop
  | [], s, K => K s
  | o :: l, s, K => (pStep E ops s o).1 ∧ runP E ops l (s.put o.dst (pStep E ops s o).2) K

/-- The same, one condition behind the other. -/
def runQ (E : Know) (ops : Array Oper) : List Oper → AS → (AS → Prop) → Prop
  | [], s, K => K s
  | o :: l, s, K => match gate ops s o with
    | some b => (b = true → (pureAct E s o.dst o.op).1 ∧ runQ E ops l (s.put o.dst (pureAct E s o.dst o.op).2) K) ∧ (b = false → runQ E ops l (s.put o.dst skipSV) K)
    | none => False

theorem runP_of_runQ {E : Know} {ops : Array Oper} {K : AS → Prop} : ∀ (l : List Oper) (s : AS), runQ E ops l s K → runP E ops l s K
  | [], _, h => h
  | o :: l, s, h => by
    simp only [runQ] at h
    simp only [runP, pStep]
    split at h
    · rename_i b hg
      cases b with
      | true =>
        have h := h.1 rfl
        simp only [hg]
        exact ⟨h.1, runP_of_runQ l _ h.2⟩
      | false =>
        simp only [hg]
        exact ⟨trivial, runP_of_runQ l _ (h.2 rfl)⟩
    · exact h.elim

section
variable {E : Know} {s : AS} {ops : Array Oper} {md : Region.Mode}

theorem callC_state {f : FuncId} {caps : List Nat} {svs : List SV} : (callC E s f caps svs).2.1 = s := by
  unfold callC
  split
  · split <;> rfl
  · split
    · unfold callR
      split
      · split
        · split <;> rfl
        · rfl
      · rfl
    · rfl

theorem callV_state {svs : List SV} {as : List Sh} {r : Sh} {q : TupT as → Prop} {p : TupT as → r.T} : (callV s svs as r q p).2.1 = s := by
  unfold callV
  split <;> rfl

theorem actO_of_pure {nl : Nat} {dst : Option Tmp} {op : Op} (h : (pureActO E s dst op).1) : (actO E nl s dst op).1 ∧ (actO E nl s dst op).2.1 = s ∧ (actO E nl s dst op).2.2 = (pureActO E s dst op).2 := by
  unfold pureActO at h ⊢
  unfold actO
  cases hw : writes op || ownLit E dst op with
  | true => rw [hw] at h; exact h.elim
  | false =>
    rw [hw] at h
    cases hc : calls op with
    | false => rw [hc] at h; exact ⟨h, rfl, rfl⟩
    | true =>
      rw [hc] at h
      simp only at h ⊢
      unfold pureCall at h ⊢
      unfold callOp
      split at h
      · split at h
        · rename_i f he
          simp only [he]
          split at h
          · rename_i c hT
            split at h
            · rename_i y hy
              cases hh : hasLend c.as with
              | true => rw [viewAs_none E s c.as _ hh] at hy; cases hy
              | false =>
                simp only [callF, hh, callE, hT, hy, h.2]
                exact ⟨h.1, trivial, trivial⟩
            · exact h.elim
          · exact h.elim
        · rename_i he
          simp only [he]
          exact ⟨h, callC_state, trivial⟩
        · rename_i he
          simp only [he]
          exact ⟨h, callV_state, trivial⟩
        · exact h.elim
      · exact h.elim

theorem act_of_pure {nl : Nat} {dst : Option Tmp} {op : Op} (h : (pureAct E s dst op).1) : (act E nl s dst op).1 ∧ (act E nl s dst op).2.1 = s ∧ (act E nl s dst op).2.2 = (pureAct E s dst op).2 := by
  unfold pureAct at h ⊢
  unfold act
  cases hm : mkOp E dst op with
  | true => rw [hm] at h; exact ⟨h, rfl, rfl⟩
  | false => rw [hm] at h; exact actO_of_pure h

theorem stepK_of_pStep {nl : Nat} {o : Oper} {K : AS → Prop} (h : (pStep E ops s o).1) (hk : K (s.put o.dst (pStep E ops s o).2)) : stepK E nl ops s o K := by
  unfold pStep at h hk
  unfold stepK
  split at h
  · rename_i hg
    simp only [hg] at hk ⊢
    obtain ⟨h1, h2, h3⟩ := act_of_pure (nl := nl) h
    exact ⟨fun _ => ⟨h1, by rw [h2, h3]; exact hk⟩, fun e => by cases e⟩
  · rename_i hg
    simp only [hg] at hk ⊢
    exact ⟨fun e => (by cases e), fun _ => hk⟩
  · exact h.elim

/-! ### What an operation does not look at makes no difference to it -/
theorem viewBV_congr {s' : AS} (hr : s'.roots = s.roots) : viewBV s' = viewBV s := by
  funext sh b
  unfold viewBV
  simp only [hr]

theorem viewSV_congr {s' : AS} (hr : s'.roots = s.roots) : viewSV s' = viewSV s := by
  funext sh b
  unfold viewSV
  simp only [viewBV_congr hr]

theorem viewPtr_congr {s' : AS} (hr : s'.roots = s.roots) (hb : s'.boxes = s.boxes) : viewPtr s' = viewPtr s := by
  funext sh b
  unfold viewPtr
  simp only [viewBV_congr hr, hb]

theorem viewSVs_congr {s' : AS} (hr : s'.roots = s.roots) : ∀ (as : List Sh) (svs : List SV), viewSVs s' as svs = viewSVs s as svs
  | [], [] => rfl
  | [], _ :: _ => rfl
  | _ :: _, [] => rfl
  | a :: as, v :: vs => by simp only [viewSVs, viewSV_congr hr, viewSVs_congr hr as vs]

theorem viewCaps_congr {s' : AS} (hr : s'.roots = s.roots) (hb : s'.boxes = s.boxes) : ∀ (as : List Sh) (ids : List Nat), viewCaps s' as ids = viewCaps s as ids
  | [], [] => rfl
  | [], _ :: _ => rfl
  | _ :: _, [] => rfl
  | a :: as, v :: vs => by simp only [viewCaps, viewPtr_congr hr hb, viewCaps_congr hr hb as vs]

theorem viewFn_congr {s' : AS} (hr : s'.roots = s.roots) (hb : s'.boxes = s.boxes) (as : List Sh) (r : Sh) (sv : SV) : viewFn E s' as r sv = viewFn E s as r sv := by
  unfold viewFn
  split
  · rfl
  · split
    · split
      · rw [viewCaps_congr hr hb]
      · rfl
    · rfl
  · rfl

theorem viewA_congr {s' : AS} (hr : s'.roots = s.roots) (hb : s'.boxes = s.boxes) (d : AD) (sv : SV) : viewA E s' d sv = viewA E s d sv := by
  cases d with
  | dat sh => simp only [viewA, viewSV_congr hr]
  | ptr sh => simp only [viewA, viewPtr_congr hr hb]
  | fnc as r => simp only [viewA, viewFn_congr hr hb]
  | pfn as r => rfl
  | lend => rfl

theorem viewAs_congr {s' : AS} (hr : s'.roots = s.roots) (hb : s'.boxes = s.boxes) : ∀ (as : List AD) (svs : List SV), viewAs E s' as svs = viewAs E s as svs
  | [], [] => rfl
  | [], _ :: _ => rfl
  | _ :: _, [] => rfl
  | a :: as, v :: vs => by simp only [viewAs, viewA_congr hr hb, viewAs_congr hr hb as vs]

theorem callC_congr {s' : AS} (hr : s'.roots = s.roots) (hb : s'.boxes = s.boxes) (f : FuncId) (caps : List Nat) (svs : List SV) :
    (callC E s' f caps svs).1 = (callC E s f caps svs).1 ∧ (callC E s' f caps svs).2.2 = (callC E s f caps svs).2.2 := by
  unfold callC
  split
  · rw [viewCaps_congr hr hb, viewSVs_congr hr]
    split <;> exact ⟨rfl, rfl⟩
  · split
    · unfold callR
      split
      · rw [hb, viewCaps_congr hr hb, viewCaps_congr hr hb, viewSVs_congr hr]
        split
        · split <;> exact ⟨rfl, rfl⟩
        · exact ⟨rfl, rfl⟩
      · exact ⟨rfl, rfl⟩
    · exact ⟨rfl, rfl⟩

theorem callV_congr {s' : AS} (hr : s'.roots = s.roots) (svs : List SV) (as : List Sh) (r : Sh) (q : TupT as → Prop) (p : TupT as → r.T) :
    (callV s' svs as r q p).1 = (callV s svs as r q p).1 ∧ (callV s' svs as r q p).2.2 = (callV s svs as r q p).2.2 := by
  unfold callV
  rw [viewSVs_congr hr]
  split <;> exact ⟨rfl, rfl⟩

theorem pv_congr {G : Lang} {s' : AS} (hr : s'.roots = s.roots) (hb : s'.boxes = s.boxes) (op : Op) (he : ∀ x ∈ op.operands, ev s' x = ev s x) : pv G s' op = pv G s op := by
  cases op with
  | call c =>
    obtain ⟨callee, args, ats⟩ := c
    have h2 : ∀ y ∈ args.toList, ev s' y = ev s y := fun y hy => he y (by simp [Op.operands, Call.operands]; exact .inr (by simpa using hy))
    cases callee with
    | value f => rfl
    | invoke r m => rfl
    | builtin b =>
      cases b <;> first
        | rfl
        | (simp only [pv]
           split
           · rename_i hx _
             rw [h2 _ (by rw [hx]; simp), hr]
           · rfl)
        | (simp only [pv]
           split
           · rename_i hx
             rw [h2 _ (by rw [hx]; simp), h2 _ (by rw [hx]; simp)]
           · rfl)
  | build t ps =>
    have h2 : (ps.toList.map fun p => (p.1, ev s' p.2)) = ps.toList.map fun p => (p.1, ev s p.2) := List.map_congr_left fun p hp => by rw [he p.2 (by simp [Op.operands]; exact ⟨p.1, by simpa using hp⟩)]
    simp only [pv, h2]
  | buildSlice t n ps =>
    have h3 : ∀ p ∈ ps.toList, ev s' p.2 = ev s p.2 := fun p hp => he p.2 (by simp [Op.operands]; exact ⟨p.1, by simpa using hp⟩)
    have h2 : (ps.toList.map fun p => ev s' p.2) = ps.toList.map fun p => ev s p.2 := List.map_congr_left fun p hp => h3 p hp
    simp only [pv, h2]
    split
    · split
      · rfl
      · split
        · rename_i x hx
          have h4 : ev s' x = ev s x := h3 (0, x) (by rw [hx]; simp)
          rw [h4, hr]
        · rfl
    · rfl
  | makeFunc f first caps =>
    have h2 : caps.toList.map (ev s') = caps.toList.map (ev s) := List.map_congr_left fun p hp => he p (by simp [Op.operands]; exact .inr (by simpa using hp))
    cases f <;> simp only [pv, h2]
  | slice t x lo hi mx =>
    have hx := he x (by simp [Op.operands])
    cases mx with
    | some m => rfl
    | none =>
      cases lo with
      | none =>
        cases hi with
        | none => simp only [pv, hx, Option.map_none]
        | some h => simp only [pv, hx, Option.map_none, Option.map_some, he h (by simp [Op.operands])]
      | some l =>
        cases hi with
        | none => simp only [pv, hx, Option.map_none, Option.map_some, he l (by simp [Op.operands])]
        | some h => simp only [pv, hx, Option.map_some, he h (by simp [Op.operands]), he l (by simp [Op.operands])]
  | move x => simp only [pv, he x (by simp [Op.operands])]
  | assign x => simp only [pv, he x (by simp [Op.operands])]
  | pick c x y => simp only [pv, he c (by simp [Op.operands]), he x (by simp [Op.operands]), he y (by simp [Op.operands])]
  | load t x => simp only [pv, he x (by simp [Op.operands]), hr, hb]
  | nilCheck x => simp only [pv, he x (by simp [Op.operands])]
  | binOp op t x y yt => simp only [pv, he x (by simp [Op.operands]), he y (by simp [Op.operands])]
  | unOp op t x => simp only [pv, he x (by simp [Op.operands])]
  | convert a b x => simp only [pv, he x (by simp [Op.operands])]
  | fieldAddr t x f => simp only [pv, he x (by simp [Op.operands])]
  | field t x f => simp only [pv, he x (by simp [Op.operands])]
  | indexAddr t x i => simp only [pv, he x (by simp [Op.operands]), he i (by simp [Op.operands]), hr]
  | index t x i => simp only [pv, he x (by simp [Op.operands]), he i (by simp [Op.operands])]
  | extract x i => simp only [pv, he x (by simp [Op.operands])]
  | _ => rfl

theorem pureActO_congr {s' : AS} (hr : s'.roots = s.roots) (hb : s'.boxes = s.boxes) (dst : Option Tmp) (op : Op) (he : ∀ x ∈ op.operands, ev s' x = ev s x) : pureActO E s' dst op = pureActO E s dst op := by
  unfold pureActO
  cases hw : writes op || ownLit E dst op with
  | true => rfl
  | false =>
    cases hc : calls op with
    | true =>
      simp only
      cases op with
      | call c =>
        obtain ⟨callee, args, ats⟩ := c
        cases callee with
        | builtin b => rfl
        | invoke r m => rfl
        | value x =>
          have h1 : ev s' x = ev s x := he x (by simp [Op.operands, Call.operands])
          have h2 : args.toList.map (ev s') = args.toList.map (ev s) := List.map_congr_left fun y hy => he y (by simp [Op.operands, Call.operands]; exact .inr (by simpa using hy))
          simp only [pureCall, h1, h2, viewAs_congr hr hb]
          split
          · rfl
          · rw [(callC_congr hr hb _ _ _).1, (callC_congr hr hb _ _ _).2]
          · rw [(callV_congr hr _ _ _ _ _).1, (callV_congr hr _ _ _ _ _).2]
          · rfl
      | _ => rfl
    | false => exact pv_congr hr hb op he

theorem pureAct_congr {s' : AS} (hr : s'.roots = s.roots) (hb : s'.boxes = s.boxes) (dst : Option Tmp) (op : Op) (he : ∀ x ∈ op.operands, ev s' x = ev s x) : pureAct E s' dst op = pureAct E s dst op := by
  unfold pureAct
  cases hm : mkOp E dst op with
  | true =>
    simp only
    cases op <;> try rfl
    rename_i t l c
    simp only [mkV, he l (by simp [Op.operands]), he c (by simp [Op.operands])]
  | false => exact pureActO_congr hr hb dst op he

theorem ev_put {dst : Option Tmp} {v : SV} {x : Operand} (h : ∀ d, dst = some d → x ≠ .tmp d) : ev (s.put dst v) x = ev s x := by
  cases dst with
  | none => rfl
  | some d =>
    cases x with
    | tmp t => exact upd_ne _ _ fun e => h d rfl (by rw [e])
    | const c => rfl
    | func f => rfl
    | global g => rfl

theorem gate_put (o : Oper) (dst : Option Tmp) (v : SV) (h : ∀ d, dst = some d → d ∉ o.looksAt ops) : gate ops (s.put dst v) o = gate ops s o := by
  cases dst with
  | none => rfl
  | some d =>
    unfold gate
    cases hg : o.guard with
    | none => rfl
    | some gw =>
      obtain ⟨g, want⟩ := gw
      simp only
      cases ht : (ops[g]?).bind (·.dst) with
      | none => rfl
      | some t =>
        have hne : t ≠ d := fun e => h d rfl (by subst e; simp [Oper.looksAt, hg, ht])
        have : (s.put (some d) v).env t = s.env t := upd_ne _ _ hne
        simp only [this]

theorem pStep_put (o : Oper) (dst : Option Tmp) (v : SV) (h : ∀ d, dst = some d → d ∉ o.looksAt ops) : pStep E ops (s.put dst v) o = pStep E ops s o := by
  unfold pStep
  rw [gate_put o dst v h, pureAct_congr (s.put_roots dst v) (s.put_boxes dst v) o.dst o.op fun x hx => ev_put fun d hd hxd => h d hd (by
    subst hxd
    exact List.mem_append_left _ (List.mem_filterMap.2 ⟨.tmp d, by simpa using hx, rfl⟩))]

theorem AS.put_comm (s : AS) {x y : Option Tmp} (v u : SV) (h : ∀ d, x = some d → y ≠ some d) : (s.put x v).put y u = (s.put y u).put x v := by
  cases x with
  | none => rfl
  | some d =>
    cases y with
    | none => rfl
    | some e =>
      have hne : d ≠ e := fun he => h d rfl (by rw [he])
      simp only [AS.put, upd_comm s.env v u hne]

/-! ### Every order -/
def pOp (E : Know) (ops : Array Oper) (i : Nat) (K : AS → Prop) (s : AS) : Prop := match ops[i]? with
  | none => K s
  | some o => (pStep E ops s o).1 ∧ K (s.put o.dst (pStep E ops s o).2)

theorem pOp_mono {i : Nat} {K K' : AS → Prop} (h : ∀ s, K s → K' s) (hh : pOp E ops i K s) : pOp E ops i K' s := by
  unfold pOp at *
  split
  · rename_i he; rw [he] at hh; exact h _ hh
  · rename_i o he; rw [he] at hh; exact ⟨hh.1, h _ hh.2⟩

theorem pOp_put {j : Nat} {oi oj : Oper} {v : SV} (hj : ops[j]? = some oj) (hap : oi.apart ops oj = true) {K : AS → Prop} {s : AS}
    (hy : (pStep E ops s oi).1 ∧ (pStep E ops s oi).2 = v) (h : pOp E ops j K (s.put oi.dst v)) :
    pOp E ops j (fun s' => ((pStep E ops s' oi).1 ∧ (pStep E ops s' oi).2 = v) ∧ K (s'.put oi.dst v)) s := by
  obtain ⟨h1, h2, h3⟩ := Oper.apart_spec hap
  unfold pOp at *
  simp only [hj] at *
  rw [pStep_put oj oi.dst v h1] at h
  refine ⟨h.1, ?_, ?_⟩
  · rw [pStep_put oi oj.dst _ h3]
    exact hy
  · rw [← AS.put_comm s v _ h2]
    exact h.2

def anyL (E : Know) (md : Region.Mode) (ops : Array Oper) (n : Nat) (L : Array Bool → AS → Prop) : Nat → Array Bool → AS → Prop
  | 0, listed, s => L listed s
  | f + 1, listed, s => Region.ready md ops listed ≠ [] ∧ ∀ i ∈ Region.ready md ops listed, i < n ∧ pOp E ops i (anyL E md ops n L f (listed.setIfInBounds i true)) s

theorem anyL_first {n i : Nat} {oi : Oper} {v : SV} {L : Array Bool → AS → Prop} (hi : ops[i]? = some oi)
    (hs : Region.sinkB md ops n = true) (hc : Region.chainB md ops n = true) (hn : n < ops.size) (hin : i < n)
    (hdone : ∀ listed s, L listed s → ∀ j ∈ Region.ready md ops listed, n ≤ j) :
    ∀ (f : Nat) (listed : Array Bool) (s : AS), HeadInv md ops n listed →
      (∀ j oj, ops[j]? = some oj → j ≠ i → listed.getD j true = false → (∀ e ∈ oj.after, Region.binds md e = true → e.on ≠ i) → oi.apart ops oj = true) →
      i ∈ Region.ready md ops listed → (pStep E ops s oi).1 ∧ (pStep E ops s oi).2 = v →
      anyL E md ops n L f (listed.setIfInBounds i true) (s.put oi.dst v) → anyL E md ops n L (f + 1) listed s := by
  have own : ∀ (f : Nat) (listed : Array Bool) (s : AS), (pStep E ops s oi).1 ∧ (pStep E ops s oi).2 = v → anyL E md ops n L f (listed.setIfInBounds i true) (s.put oi.dst v) → pOp E ops i (anyL E md ops n L f (listed.setIfInBounds i true)) s := by
    intro f listed s hy H
    unfold pOp
    simp only [hi]
    exact ⟨hy.1, by rw [hy.2]; exact H⟩
  intro f
  induction f with
  | zero =>
    intro listed s inv _ hr hy H
    have hun := (mem_ready.1 hr).1
    refine ⟨fun h => (by rw [h] at hr; cases hr), fun j hj => ?_⟩
    have hjn : j < n := by
      rcases Nat.lt_or_ge j n with h | h
      · exact h
      · exact absurd hj (tail_waits hs hc hn inv _ i rfl hin hun j h)
    refine ⟨hjn, ?_⟩
    by_cases hji : j = i
    · subst hji; exact own 0 listed s hy H
    · have := hdone _ _ H j (ready_mono hj hji)
      omega
  | succ f ih =>
    intro listed s inv hfree hr hy H
    have hun := (mem_ready.1 hr).1
    refine ⟨fun h => (by rw [h] at hr; cases hr), fun j hj => ?_⟩
    have hjn : j < n := by
      rcases Nat.lt_or_ge j n with h | h
      · exact h
      · exact absurd hj (tail_waits hs hc hn inv _ i rfl hin hun j h)
    refine ⟨hjn, ?_⟩
    by_cases hji : j = i
    · subst hji; exact own (f + 1) listed s hy H
    · have h1 := (H.2 j (ready_mono hj hji)).2
      obtain ⟨hjun, oj, hoj, hall⟩ := mem_ready.1 hj
      have hnot : ∀ e ∈ oj.after, Region.binds md e = true → e.on ≠ i := fun e he hb heq => by
        have h1 := hall e he hb
        rw [heq, getD_both hun] at h1
        cases h1
      have h2 := pOp_put hoj (hfree j oj hoj hji hjun hnot) hy h1
      have hfree' : ∀ k ok, ops[k]? = some ok → k ≠ i → (listed.setIfInBounds j true).getD k true = false →
          (∀ e ∈ ok.after, Region.binds md e = true → e.on ≠ i) → oi.apart ops ok = true := fun k ok hk hki hun hno => by
        refine hfree k ok hk hki ?_ hno
        by_cases hjk : j = k
        · subst hjk; exact hjun
        · rw [getD_set_ne true hjk] at hun; exact hun
      refine pOp_mono (fun s' h3 => ih (listed.setIfInBounds j true) s' (inv.set hj hjn) hfree' (ready_mono hr (Ne.symm hji)) h3.1 ?_) h2
      rw [Array.setIfInBounds_comm _ _ hji]
      exact h3.2

theorem anyL_lex {n g : Nat} {Lq : AS → Prop} (hs : Region.sinkB md ops n = true) (hc : Region.chainB md ops n = true) (hn : n < ops.size) :
    ∀ (l : List Oper) (k : Nat) (listed : Array Bool) (s : AS), (∀ j, j < l.length → l[j]? = ops[k + j]?) → k + l.length = n → HeadInv md ops n listed →
    Region.lexHead md ops g l.length k listed = true → runP E ops l s Lq →
    anyL E md ops n (fun listed' s' => Region.seqB md ops g n listed' = true ∧ Lq s') l.length listed s
  | [], k, listed, s, _, hk, _, hB, h => by
    have : k = n := by simpa using hk
    subst this
    exact ⟨by simpa [Region.lexHead] using hB, h⟩
  | o :: l, k, listed, s, hl, hk, inv, hB, h => by
    have h0 : ops[k]? = some o := by simpa using (hl 0 (by simp)).symm
    simp only [List.length_cons, Region.lexHead, Bool.and_eq_true] at hB
    obtain ⟨⟨hr, hf⟩, hB'⟩ := hB
    have hkn : k < n := by simp only [List.length_cons] at hk; omega
    have hr' : k ∈ Region.ready md ops listed := by simpa using hr
    simp only [runP] at h
    exact anyL_first h0 hs hc hn hkn (fun listed' s' hL => seqB_ready hL.1) l.length listed s inv (Region.free_spec h0 hf) hr' ⟨h.1, rfl⟩
      (anyL_lex hs hc hn l (k + 1) _ _ (fun j hj => by have := hl (j + 1) (by simp; omega); simpa [Nat.add_assoc, Nat.add_comm 1 j] using this) (by simp only [List.length_cons] at hk; omega) (inv.set hr' hkn) hB' h.2)

variable {C : Ctx} {γ : Gam} {a : Act} {w : World}

theorem wpAny_of_anyL (hE : KnowOK C.P E) {N n g : Nat} {L : Array Bool → AS → Prop} {Q' : Exit → Act → World → Prop} (hd : ∀ (j : Nat) (o : Oper), ops[j]? = some o → dstOK N o.dst = true)
    (hL : ∀ listed s γ a w, L listed s → Rel C γ s a w → a.tmps.size = N → wpAny C.P md ops Q' g listed a w) :
    ∀ (f : Nat) (listed : Array Bool) (s : AS) (γ : Gam) (a : Act) (w : World), Rel C γ s a w → a.tmps.size = N → anyL E md ops n L f listed s → wpAny C.P md ops Q' (f + g) listed a w
  | 0, listed, s, γ, a, w, hr, hN, h => by rw [Nat.zero_add]; exact hL _ _ _ _ _ h hr hN
  | f + 1, listed, s, γ, a, w, hr, hN, h => by
    rw [show f + 1 + g = (f + g) + 1 by omega]
    refine ⟨fun h0 => absurd h0 h.1, fun i hi => ?_⟩
    have h1 := (h.2 i hi).2
    unfold pOp at h1
    unfold wpOp
    split
    · rename_i he
      rw [he] at h1
      exact wpAny_of_anyL hE hd hL f _ s γ a w hr hN h1
    · rename_i o he
      rw [he] at h1
      have h2 := stepK_sound (ops := ops) (Q := Q') hE hr (by rw [hN]; exact hd) (o := o) (by rw [hN]; exact hd i o he) (stepK_of_pStep (nl := C.nl) h1.1 h1.2)
        (next := wpAny C.P md ops Q' (f + g) (listed.setIfInBounds i true)) (fun s' γ' a' w' k1 k2 k3 => wpAny_of_anyL hE hd hL f _ s' γ' a' w' k1 (k2.trans hN) k3)
      split
      · rename_i hw
        rw [if_pos hw] at h2
        exact .inl h2
      · rename_i hw
        rw [if_neg hw] at h2
        exact h2

/-- **A region in any order**: its first n operations write nothing, the others come behind them, one by one. -/
theorem wp_draw (hE : KnowOK C.P E) {id n : Nat} {l : List Oper} {Q : Exit → Act → World → Prop} {K : AS → Prop} {N : Nat} (hd : ∀ (j : Nat) (o : Oper), l.toArray[j]? = some o → dstOK N o.dst = true)
    (hQ : ∀ s' γ' a' w', Rel C γ' s' a' w' → a'.tmps.size = N → K s' → Q .normal a' w') (hN : a.tmps.size = N) (h : Rel C γ s a w) (hB : Region.lexTailB .any l.toArray n = true)
    (hk : runP E l.toArray (l.take n) s fun s' => runK E C.nl l.toArray (l.drop n) s' K) : (Code.region id l.toArray true).wp C.P Q a w := by
  simp only [Region.lexTailB, Bool.and_eq_true, decide_eq_true_eq] at hB
  obtain ⟨⟨⟨⟨hsel, hn⟩, hs⟩, hc⟩, hlex⟩ := hB
  have hn' : n < l.length := by simpa using hn
  have htl : (l.take n).length = n := by simp; omega
  have hdl : (l.drop n).length = l.toArray.size - n := by simp
  have inv0 : HeadInv .any l.toArray n (Array.replicate l.toArray.size false) :=
    ⟨by simp, fun j oj _ hl => (by rw [getD_replicate_false] at hl; cases hl), fun t _ ht => getD_in (by simpa using ht) (getD_replicate_false _ _)⟩
  have H := anyL_lex (E := E) (md := .any) (g := l.toArray.size - n) hs hc hn (l.take n) 0 _ s (fun j hj => by
    have hj' : j < n := by rw [htl] at hj; exact hj
    simp [hj']) (by simpa using htl) inv0 (by rw [htl]; exact hlex) hk
  refine wp_region_any hE.lang.mixed ?_
  have hr : Rel C γ s a { w with drawn := w.drawn + 1 } := h.world ⟨rfl, rfl, rfl, Nat.le_refl _, fun _ _ _ => rfl⟩
  have := wpAny_of_anyL (Q' := Q) (g := l.toArray.size - n) hE hd (fun listed s' γ' a' w' hL h1 h2 => by
    have h3 := runK_sound (ops := l.toArray) hE hd hQ (l.drop n) s' γ' a' w' (fun o ho => by
      obtain ⟨j, hj⟩ := List.mem_iff_getElem?.1 (List.mem_of_mem_drop ho)
      exact hd j o (by simpa using hj)) h2 h1 hL.2
    have := wpAny_of_seq (md := .any) (Q' := Q) (l.drop n) n listed a' w' (fun j => by simp [List.getElem?_drop]) (by rw [hdl]; exact hL.1) h3
    rwa [hdl] at this) _ _ _ _ _ _ hr hN H
  rw [htl, show n + (l.toArray.size - n) = l.toArray.size by omega] at this
  exact this

end
end Go.VS
