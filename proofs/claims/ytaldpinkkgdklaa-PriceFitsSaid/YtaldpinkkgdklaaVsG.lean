/- Value semantics, part G: operations that write: stores, appends, new slices and variables, on abstract values. Over any program; no condition. -/
import Derived.Test.YtaldpinkkgdklaaVsF
namespace Go.VS
open Go.RowKit
set_option linter.unusedSimpArgs false
set_option linter.unusedVariables false

/-! ### What is forgotten -/
def mapSV (K : BV → BV) : SV → SV
  | .one b => .one (K b)
  | .tup bs => .tup (bs.map K)
  | .rcd bs => .rcd (bs.map K)

def killR (r : Nat) (b : BV) : BV := match b with
  | .ref q => if q = r then .any else b
  | .refi q _ => if q = r then .any else b
  | .adr q _ _ => if q = r then .any else b
  | .adri q _ _ _ => if q = r then .any else b
  | .lits q => if q = r then .any else b
  | b => b

/-- What names a row of the root r. -/
def killRow (r : Nat) (b : BV) : BV := match b with
  | .refi q _ => if q = r then .any else b
  | .adri q _ _ _ => if q = r then .any else b
  | b => b

def killB (x : Nat) (b : BV) : BV := match b with
  | .box q => if q = x then .any else b
  | .boxf q _ _ _ => if q = x then .any else b
  | .fn _ caps => if caps.elem x then .any else b
  | b => b

def AS.map (s : AS) (K : BV → BV) : AS := { s with env := fun i => mapSV K (s.env i), boxes := fun i => (s.boxes i).map (mapSV K) }

def AS.setRoot (s : AS) (r : Nat) (rc : Option RC) : AS := { s with roots := upd s.roots r rc }
def AS.setBox (s : AS) (b : Nat) (sv : SV) : AS := { s with boxes := upd s.boxes b (some sv) }

def tryCast (a b : Sh) (v : a.T) : Option b.T := if h : a = b then some (h ▸ v) else none
theorem tryCast_self (a : Sh) (v : a.T) : tryCast a a v = some v := by simp [tryCast]

/-- The single cells of a datum. -/
def toCells : (s : Sh) → s.T → List BV
  | .unit, _ => []
  | .prod a b, x => toCells a x.1 ++ toCells b x.2
  | s, x => [.val s x]

def badE (s : AS) : Prop × AS × SV := (False, s, .one .any)

def svSize : SV → Nat
  | .one (.val sh _) => sh.size
  | .one _ => 1
  | .rcd bs => bs.length
  | .tup _ => 0

/-- The number of its cells is known. -/
def sized : SV → Bool
  | .one (.val _ _) => true
  | .one b => b.single
  | .rcd _ => true
  | .tup _ => false

/-- A value that may stand in a variable of type t. -/
def fitsT (G : Lang) (t : TypeId) : SV → Prop
  | .one (.val sh _) => G.sh t = some sh
  | .one b => b.single = true ∧ G.plain t = true
  | .rcd bs => G.ones t = some bs.length
  | .tup _ => False

def lens (G : Lang) (s : AS) (t : TypeId) : SV → Option ((sh : Sh) × List sh.T)
  | .one (.val (.sl sh) xs) => some ⟨sh, xs⟩
  | .one .nils => match G.sh t with
    | some (.sl sh) => some ⟨sh, []⟩
    | _ => none
  | .one (.ref r) => match s.roots r with
    | some (.flat _ sh xs) => some ⟨sh, xs⟩
    | _ => none
  | .one (.refi r i) => match s.roots r with
    | some (.deep _ _ sh xss) => if i < xss.length then some ⟨sh, xss.getD i []⟩ else none
    | _ => none
  | _ => none

/-- An operation that writes: its condition, the state behind it, what it yields. 'nl': how many roots are lent (their headers stay). -/
def ef (G : Lang) (nl : Nat) (s : AS) (dst : Option Tmp) : Op → Prop × AS × SV
  | .store t x y => match ev s x, ev s y with
    | .one (.adr r i sz), .one (.val sh v) => match s.roots r with
      | some (.flat e sh' xs) => match tryCast sh sh' v with
        | some v' => (G.sh t = some sh' ∧ sz = sh'.size ∧ i < xs.length, s.setRoot r (some (.flat e sh' (xs.set i v'))), .one .any)
        | none => badE s
      | _ => badE s
    | .one (.adr r i sz), .one (.ref q) => match s.roots r, s.roots q with
      | some (.deep e e2 sh xss), some (.flat e' sh' ys) => match tryCast (.sl sh') (.sl sh) ys with
        | some ys' => (G.sh t = some (.sl sh) ∧ sz = 1 ∧ i < xss.length ∧ r ≠ q ∧ nl ≤ q ∧ e' = e2, ((s.map (killR q)).map (killRow r)).setRoot q none |>.setRoot r (some (.deep e e2 sh (xss.set i ys'))), .one .any)
        | none => badE s
      | some (.hole e e2 sh xss k), some (.flat e' sh' ys) => match tryCast (.sl sh') (.sl sh) ys with
        | some ys' => (G.sh t = some (.sl sh) ∧ sz = 1 ∧ i < xss.length ∧ i = k ∧ r ≠ q ∧ nl ≤ q ∧ e' = e2, ((s.map (killR q)).map (killRow r)).setRoot q none |>.setRoot r (some (.deep e e2 sh (xss.set i ys'))), .one .any)
        | none => badE s
      | _, _ => badE s
    | .one (.adri r i j sz), .one (.val sh v) => match s.roots r with
      | some (.deep e e2 sh' xss) => match tryCast sh sh' v with
        | some v' => (G.sh t = some sh' ∧ sz = sh'.size ∧ i < xss.length ∧ j < (xss.getD i []).length, s.setRoot r (some (.deep e e2 sh' (xss.set i ((xss.getD i []).set j v')))), .one .any)
        | none => badE s
      | _ => badE s
    | .one (.box b), v => match s.boxes b with
      | some old => (svSize old = svSize v ∧ sized old = true ∧ fitsT G t v, s.setBox b v, .one .any)
      | none => badE s
    | .one (.boxf b _ _ off), .one v => match s.boxes b with
      | some (.rcd bs) => (off < bs.length ∧ v.single = true ∧ G.plain t = true, s.setBox b (.rcd (bs.set off v)), .one .any)
      | _ => badE s
    | _, _ => badE s
  | .makeSlice t l c => match dst, ev s l, ev s c, G.sh t with
    | some d, .one (.val .int n), .one (.val .int m), some (.sl (.sl sh)) =>
      ((n : Int) = m ∧ cutOK n 1000000 ∧ nl ≤ d ∧ sh.flat = true, (s.map (killR d)).setRoot d (some (.deep (G.el t) (G.el (G.el t)) sh (List.replicate (Int.toNat n) []))), .one (.ref d))
    | some d, .one (.val .int n), .one (.val .int m), some (.sl sh) =>
      ((n : Int) = m ∧ cutOK n 1000000 ∧ nl ≤ d ∧ sh.flat = true, (s.map (killR d)).setRoot d (some (.flat (G.el t) sh (List.replicate (Int.toNat n) sh.zero))), .one (.ref d))
    | _, _, _, _ => badE s
  | .buildSlice t n parts => match dst, G.sh t with
    | some d, some (.sl sh) => match allVals sh (parts.toList.map fun p => ev s p.2) with
      | some xs => (parts.toList.map (·.1) = List.range n ∧ n ≤ 1000 ∧ sh.flat = true ∧ nl ≤ d, (s.map (killR d)).setRoot d (some (.flat (G.el t) sh xs)), .one (.ref d))
      | none => badE s
    | _, _ => badE s
  | .alloc t => match dst, G.sh t with
    | some d, some sh => (True, (s.map (killB d)).setBox d (if sh.agg then .rcd (zeroCells sh) else .one ((zeroCells sh).headD .any)), .one (.box d))
    | some d, none => (G.fnT t = true, (s.map (killB d)).setBox d (.one .nilf), .one (.box d))
    | _, _ => badE s
  | .box _ x => match dst, ev s x with
    | some d, .one v => (v.single = true ∨ (∃ sh y, v = .val sh y), (s.map (killB d)).setBox d (mapSV (killB d) (.one v)), .one (.box d))
    | some d, .rcd bs => (True, (s.map (killB d)).setBox d (mapSV (killB d) (.rcd bs)), .one (.box d))
    | _, _ => badE s
  | .call { callee := .builtin .append, args, argTypes } => match dst, args.toList, argTypes.toList with
    | some d, [x, y], [t, t'] => match ev s x, ev s y with
      | .one (.ref r), .one (.lits q) => match s.roots r, s.roots q with
        | some (.deep e e2 sh xss), some (.flat e' sh' ys) => match tryCast (.sl sh') (.sl sh) ys with
          | some ys' => (t = t' ∧ G.sh t = some (.sl (.sl sh)) ∧ e = G.el t ∧ r ≠ q ∧ nl ≤ q ∧ nl ≤ r ∧ e' = e2 ∧ xss.length ≤ 1000000, ((s.map (killR q)).map (killR r)).setRoot q none |>.setRoot r (some (.deep e e2 sh (xss ++ [ys']))), .one (.ref r))
          | none => badE s
        | _, _ => badE s
      | .one .nils, .one (.lits q) => match s.roots q, G.sh t with
        | some (.flat e' sh' ys), some (.sl (.sl sh)) => match tryCast (.sl sh') (.sl sh) ys with
          | some ys' => (t = t' ∧ d ≠ q ∧ nl ≤ q ∧ nl ≤ d ∧ e' = G.el (G.el t), ((s.map (killR q)).map (killR d)).setRoot q none |>.setRoot d (some (.deep (G.el t) e' sh [ys'])), .one (.ref d))
          | none => badE s
        | _, _ => badE s
      | .one (.ref r), v => match s.roots r, lens G s t v with
        | some (.flat e sh xs), some ⟨sh', ys⟩ => match tryCast (.sl sh') (.sl sh) ys with
          | some ys' => (t = t' ∧ G.sh t = some (.sl sh) ∧ e = G.el t ∧ nl ≤ r ∧ xs.length ≤ 1000000 ∧ (ys').length ≤ 1000000, (s.map (killR r)).setRoot r (some (.flat e sh (xs ++ ys'))), .one (.ref r))
          | none => badE s
        | _, _ => badE s
      | .one .nils, v => match lens G s t v, G.sh t with
        | some ⟨sh', ys⟩, some (.sl sh) => match tryCast (.sl sh') (.sl sh) ys with
          | some ys' => (t = t' ∧ sh.flat = true ∧ nl ≤ d ∧ (ys').length ≤ 1000000, (s.map (killR d)).setRoot d (some (.flat (G.el t) sh ys')), .one (.ref d))
          | none => badE s
        | _, _ => badE s
      | .one (.refi r i), v => match s.roots r, lens G s t v with
        | some (.deep e e2 sh xss), some ⟨sh', ys⟩ => match tryCast (.sl sh') (.sl sh) ys with
          | some ys' => (t = t' ∧ G.sh t = some (.sl sh) ∧ e2 = G.el t ∧ i < xss.length ∧ nl ≤ d ∧ r ≠ d ∧ (xss.getD i []).length ≤ 1000000 ∧ (ys').length ≤ 1000000,
              ((s.map (killR d)).map (killRow r)).setRoot r (some (.hole e e2 sh xss i)) |>.setRoot d (some (.flat e2 sh (xss.getD i [] ++ ys'))), .one (.ref d))
          | none => badE s
        | _, _ => badE s
      | _, _ => badE s
    | _, _, _ => badE s
  | _ => badE s

/-! ### Soundness -/
section
variable {C : Ctx} {G : Lang} {γ : Gam} {s : AS} {a : Act} {w : World}

def Wrote (C : Ctx) (a : Act) (w : World) (N : Nat) (o : Oper) (r : Prop × AS × SV) : Prop :=
  r.1 → ∃ v w' γ', ((execOp a.eval o).run C.P w = .ok (.value v) w' ∨ ((execOp a.eval o).run C.P w = .ok .skip w' ∧ v = undef)) ∧ Rel C γ' r.2.1 a w' ∧ svRep C γ' w' r.2.2 v

theorem Wrote.bad {N : Nat} {o : Oper} : Wrote C a w N o (badE s) := fun h => h.elim

/-- 'K' keeps a value, or forgets it. -/
def Forgets (K : BV → BV) (γ γ' : Gam) : Prop := ∀ b, K b = .any ∨ (K b = b ∧ Agree γ γ' b)

theorem bvsRep_map {K : BV → BV} {γ' : Gam} {w' : World} (hs : Sub C γ w γ' w') (hK : Forgets K γ γ') : ∀ (bs : List BV) (vs : List Value), bvsRep C γ w bs vs → bvsRep C γ' w' (bs.map K) vs
  | [], _, h => h
  | b :: bs, vs, h => by
    obtain ⟨v, vs', rfl, h1, h2⟩ := h
    refine ⟨v, vs', rfl, ?_, bvsRep_map hs hK bs vs' h2⟩
    rcases hK b with h3 | ⟨h3, h4⟩
    · rw [h3]; trivial
    · rw [h3]; exact bvRep_mono hs h4 h1

theorem svRep_map {K : BV → BV} {γ' : Gam} {w' : World} (hs : Sub C γ w γ' w') (hK : Forgets K γ γ') {sv : SV} {v : Value} (h : svRep C γ w sv v) : svRep C γ' w' (mapSV K sv) v := by
  cases sv with
  | one b =>
    rcases hK b with h3 | ⟨h3, h4⟩
    · simp only [mapSV, h3]; trivial
    · simp only [mapSV, h3]; exact bvRep_mono hs h4 h
  | tup bs =>
    obtain ⟨vs, h1, h2⟩ := h
    exact ⟨vs, h1, bvsRep_map hs hK bs vs h2⟩
  | rcd bs =>
    obtain ⟨vs, h1, h2, h3⟩ := h
    exact ⟨vs, h1, bvsRep_map hs hK bs vs h2, h3⟩

theorem boxCells_map {K : BV → BV} {γ' : Gam} {w' : World} (hs : Sub C γ w γ' w') (hK : Forgets K γ γ') {sv : SV} {cs : List Value} (h : boxCells C γ w sv cs) : boxCells C γ' w' (mapSV K sv) cs := by
  cases sv with
  | one b =>
    obtain ⟨v, h1, h2⟩ := h
    refine ⟨v, ?_, h2⟩
    rcases hK b with h3 | ⟨h3, h4⟩
    · rw [h3]; trivial
    · rw [h3]; exact bvRep_mono hs h4 h1
  | tup bs => exact h
  | rcd bs => exact bvsRep_map hs hK bs cs h

theorem Forgets.id (γ : Gam) : Forgets (fun b => b) γ γ := fun b => .inr ⟨rfl, Agree.refl γ b⟩

theorem Forgets.comp {K K' : BV → BV} {γ γ' : Gam} (h : Forgets K γ γ') (h' : ∀ b, K' b = .any ∨ K' b = b) : Forgets (fun b => K' (K b)) γ γ' := by
  intro b
  rcases h b with h1 | ⟨h1, h2⟩
  · left
    rcases h' .any with h3 | h3
    · simp only [h1, h3]
    · simp only [h1, h3]
  · simp only [h1]
    rcases h' b with h3 | h3
    · left; exact h3
    · right; exact ⟨h3, h2⟩

theorem mapSV_id (sv : SV) : mapSV (fun b => b) sv = sv := by cases sv <;> simp [mapSV]
theorem AS.map_env (s : AS) (K : BV → BV) (i : Nat) : (s.map K).env i = mapSV K (s.env i) := rfl

/-- A write into one owned block. -/
structure Write (C : Ctx) (γ : Gam) (w w' : World) (g : Nat) (l : Loc) : Prop where
  own : γ.own g = some l
  may : C.w0.heap.size ≤ g ∨ C.L g
  grown : w.grownBy w' (some g)
  nmk : ∀ d, l ≠ .mk d

theorem Write.keep {w' : World} {g : Nat} {l : Loc} (hw : Write C γ w w' g l) (h : Keep C.L C.w0 w) : Keep C.L C.w0 w' :=
  ⟨hw.grown.os.trans h.os, hw.grown.tape.trans h.tape, hw.grown.output.trans h.output, Nat.le_trans h.size hw.grown.size, fun k hk hL => by
    rw [hw.grown.block k (Nat.lt_of_lt_of_le hk h.size) (fun e => by
      simp only [Option.some.injEq] at e
      subst e
      rcases hw.may with h1 | h1
      · omega
      · exact hL h1)]
    exact h.block k hk hL⟩

theorem Write.sub {w' : World} {g : Nat} {l : Loc} (hw : Write C γ w w' g l) : Sub C γ w γ w' :=
  ⟨hw.grown.size, fun b hb hz => ⟨hz, hw.grown.block b hb (fun e => by
    simp only [Option.some.injEq] at e
    subst e
    have := hz.2
    rw [hw.own] at this
    cases this)⟩, fun b d hb hz => ⟨hz, hw.grown.block b hb (fun e => by
    simp only [Option.some.injEq] at e
    subst e
    rw [hw.own, Option.some.injEq] at hz
    exact hw.nmk d hz)⟩⟩

theorem Write.row {w' : World} {g : Nat} {l l' : Loc} (hw : Write C γ w w' g l) (hne : l' ≠ l) {e sz n : Nat} {v : Value} {xs : List Value} (h : w.ownsRow 0 e sz v n xs) (ho : ownB C γ v l') : w'.ownsRow 0 e sz v n xs := by
  refine h.kept hw.grown ?_
  cases hv : v.ownBlock with
  | none => exact .inl rfl
  | some k =>
    right
    intro e
    simp only [Option.some.injEq] at e
    subst e
    have := (ho k hv).1
    rw [hw.own] at this
    simp only [Option.some.injEq] at this
    exact hne this.symm

/-- Roots other than the one that is written stay. -/
theorem Write.root {w' : World} {g : Nat} {l : Loc} (hw : Write C γ w w' g l) {r : Nat} {rc : RC} (h : rcRep C γ w r rc) (h1 : l ≠ .hd r) (h2 : ∀ i, l ≠ .row r i) : rcRep C γ w' r rc := by
  cases rc with
  | flat e s xs => exact ⟨h.1, hw.row (Ne.symm h1) h.2.1 h.2.2, h.2.2⟩
  | deep e e2 s xss => exact ⟨h.1, hw.row (Ne.symm h1) h.2.1 h.2.2.1, h.2.2.1, fun i xs hi => ⟨hw.row (Ne.symm (h2 i)) (h.2.2.2 i xs hi).1 (h.2.2.2 i xs hi).2, (h.2.2.2 i xs hi).2⟩⟩
  | hole e e2 s xss k => exact ⟨h.1, hw.row (Ne.symm h1) h.2.1 h.2.2.1, h.2.2.1, fun i xs hne hi => ⟨hw.row (Ne.symm (h2 i)) (h.2.2.2 i xs hne hi).1 (h.2.2.2 i xs hne hi).2, (h.2.2.2 i xs hne hi).2⟩⟩

theorem Write.box {w' : World} {g : Nat} {l : Loc} (hw : Write C γ w w' g l) (hl : ∀ k b, γ.own k = some b → k < w.heap.size) {b : Nat} {sv : SV} (h : bxRep C γ w b sv) (h1 : l ≠ .bx b) : bxRep C γ w' b sv := by
  obtain ⟨cs, t, e1, e2, e3, e4, e5⟩ := h
  refine ⟨cs, t, ?_, boxCells_mono hw.sub (fun _ _ => Agree.refl γ _) e2, e3, e4, e5⟩
  rw [hw.grown.block _ (hl _ _ e4) (fun e => by
    simp only [Option.some.injEq] at e
    rw [e, hw.own] at e4
    simp only [Option.some.injEq] at e4
    exact h1 e4)]
  exact e1

/-- Cells of a row, some of them replaced. -/
theorem row_store {g n cap e sz o : Nat} {xs : List Value} (h : w.ownsRow 0 e sz (.slice (some ⟨g, 0, none⟩) n cap) n xs) (vs : List Value) (ho : o + vs.length ≤ xs.length) :
    ∃ cur t, w.heap[g]? = some (.cells cur t (0, 0)) ∧ o + vs.length ≤ cur.size ∧
      (w.setRow g (cur.toList.take o ++ vs ++ cur.toList.drop (o + vs.length)).toArray).ownsRow 0 e sz (.slice (some ⟨g, 0, none⟩) n cap) n (xs.take o ++ vs ++ xs.drop (o + vs.length)) ∧
      w.grownBy (w.setRow g (cur.toList.take o ++ vs ++ cur.toList.drop (o + vs.length)).toArray) (some g) := by
  obtain ⟨hlen, h2⟩ := h
  rcases h2 with ⟨h', _⟩ | ⟨g', cap', cur, h', hb, hg, hnc, hcm, hcs, htake⟩
  · simp at h'
  · simp only [Value.slice.injEq, Option.some.injEq, Addr.mk.injEq, and_true, true_and] at h'
    obtain ⟨rfl, rfl⟩ := h'
    have hle : n * sz ≤ cur.size := by rw [hcs]; exact Nat.mul_le_mul_right _ hnc
    refine ⟨cur, e, hg, by omega, ⟨by simp; omega, .inr ⟨g, cap, _, rfl, hb, setRow_heap w g cur _ e _ hg, hnc, hcm, ?_, ?_⟩⟩, ⟨rfl, rfl, rfl, by simp, fun k _ hk => setRow_other w g k _ (fun e => hk (by simp [e]))⟩⟩
    · simp only [List.size_toArray, List.length_append, List.length_take, List.length_drop, Array.length_toList]
      omega
    · rw [← htake]
      apply List.ext_getElem?
      intro j
      simp only [List.getElem?_take, List.getElem?_append, List.length_take, List.getElem?_drop, List.length_append, Array.length_toList]
      have hm : min o cur.size = o := by omega
      have hm2 : min o (min (n * sz) cur.size) = o := by omega
      simp only [hm, hm2]
      by_cases h1 : j < o
      · have : j < n * sz := by omega
        have h3 : j < o + vs.length := by omega
        simp [h1, this, h3]
      · by_cases h3 : j < o + vs.length
        · have h4 : j < n * sz := by omega
          simp [h1, h3, h4]
        · by_cases h4 : j < n * sz
          · have h5 : o + vs.length + (j - (o + vs.length)) = j := by omega
            simp [h1, h3, h4, h5]
          · have h5 : o + vs.length + (j - (o + vs.length)) = j := by omega
            simp [h1, h3, h4, h5]

end
end Go.VS
