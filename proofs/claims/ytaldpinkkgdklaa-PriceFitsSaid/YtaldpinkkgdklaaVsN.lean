/- Value semantics, part N: contracts of functions, and calls of functions that have one. Over any program; no condition. -/
import Derived.Test.YtaldpinkkgdklaaVsM
namespace Go.VS
open Go.RowKit
set_option linter.unusedSimpArgs false
set_option linter.unusedVariables false

/-! ### Contracts -/
inductive AD where
  | dat (s : Sh)
  | ptr (s : Sh)
  | fnc (as : List Sh) (r : Sh)
  | pfn (as : List Sh) (r : Sh)
  | lend

@[reducible] def AD.T : AD → Type
  | .dat s => s.T
  | .ptr s => s.T
  | .fnc as r => (TupT as → Prop) × (TupT as → r.T)
  | .pfn as r => (TupT as → Prop) × (TupT as → r.T)
  | .lend => RC

@[reducible] def TupA : List AD → Type
  | [] => Unit
  | a :: as => a.T × TupA as

def paramBVs : Nat → (as : List AD) → TupA as → List BV
  | _, [], _ => []
  | k, .dat s :: as, x => .val s x.1 :: paramBVs k as x.2
  | k, .ptr s :: as, x => .padr s x.1 :: paramBVs k as x.2
  | k, .fnc l r :: as, x => .fnv l r x.1.1 x.1.2 :: paramBVs k as x.2
  | k, .pfn l r :: as, x => .pfn l r x.1.1 x.1.2 :: paramBVs k as x.2
  | k, .lend :: as, x => .ref k :: paramBVs (k + 1) as x.2

def paramRoots : Nat → (as : List AD) → TupA as → List (Nat × RC)
  | _, [], _ => []
  | k, .dat _ :: as, x => paramRoots k as x.2
  | k, .ptr _ :: as, x => paramRoots k as x.2
  | k, .fnc _ _ :: as, x => paramRoots k as x.2
  | k, .pfn _ _ :: as, x => paramRoots k as x.2
  | k, .lend :: as, x => (k, x.1) :: paramRoots (k + 1) as x.2

def lends : List AD → Nat
  | [] => 0
  | .lend :: as => lends as + 1
  | _ :: as => lends as

inductive RV where
  | val (s : Sh) (x : s.T)
  | own (rc : RC)

structure Out where
  res : List RV
  left : List (Nat × RC) := []

structure Con where
  as : List AD
  pre : TupA as → Prop
  post : TupA as → Out

structure Clo where
  caps : List Sh
  as : List Sh
  r : Sh
  q : TupT caps → TupT as → Prop
  p : TupT caps → TupT as → r.T

def packRes : List Value → Value
  | [v] => v
  | vs => .tuple vs.toArray

/-- The results, the owned ones named by 'ids'. -/
def resRep (C : Ctx) (γ : Gam) (w : World) : List RV → List Nat → List Value → Prop
  | [], ids, vs => ids = [] ∧ vs = []
  | .val s x :: rs, ids, vs => ∃ v vs', vs = v :: vs' ∧ vrep w (C.zn γ) s x v ∧ resRep C γ w rs ids vs'
  | .own rc :: rs, ids, vs => ∃ v vs' i ids', vs = v :: vs' ∧ ids = i :: ids' ∧ v = γ.hd i ∧ rcRep C γ w i rc ∧ resRep C γ w rs ids' vs'

structure OutRep (C : Ctx) (γ : Gam) (w : World) (o : Out) (v : Value) : Prop where
  ok : ∃ ids vs, v = packRes vs ∧ resRep C γ w o.res ids vs ∧ (ids ++ o.left.map (·.1)).Nodup
  left : ∀ p ∈ o.left, rcRep C γ w p.1 p.2 ∧ γ.hd p.1 = C.lh p.1
  ownlt : ∀ k l, γ.own k = some l → k < w.heap.size

structure Entry (C : Ctx) (γ : Gam) (P : Program) (as : List AD) (x : TupA as) (vs : List Value) : Prop where
  P : C.P = P
  nl : C.nl = lends as
  lent : ∀ r, r < C.nl → γ.hd r = C.lh r
  ownlt : ∀ k l, γ.own k = some l → k < C.w0.heap.size
  args : bvsRep C γ C.w0 (paramBVs 0 as x) vs
  roots : ∀ p ∈ paramRoots 0 as x, rcRep C γ C.w0 p.1 p.2

structure FnSpec (P : Program) (f : FuncId) (c : Con) : Prop where
  callable : Callable P f
  run : ∀ (C : Ctx) (γ : Gam) (x : TupA c.as) (vs : List Value), c.pre x → Entry C γ P c.as x vs →
    Calls P f vs.toArray C.w0 (fun e w' => ∃ v γ', e = .returned v ∧ OutRep C γ' w' (c.post x) v ∧ Keep C.L C.w0 w')

def ptrRep (w : World) (Z : Nat → Prop) (s : Sh) (x : s.T) (v : Value) : Prop :=
  ∃ b off cs, v = .pointer (some ⟨b, off, none⟩) ∧ Z b ∧ b < w.heap.size ∧ pers w Z s x cs ∧ ∀ j c, cs[j]? = some c → w.cell? ⟨b, off + j, none⟩ = some c

def ptrsRep (w : World) (Z : Nat → Prop) : (as : List Sh) → TupT as → List Value → Prop
  | [], _, vs => vs = []
  | a :: as, x, vs => ∃ v vs', vs = v :: vs' ∧ ptrRep w Z a x.1 v ∧ ptrsRep w Z as x.2 vs'

/-- A closure that calls itself, through the variable that it stands in. -/
structure Rec where
  ante : List Sh
  post : List Sh
  as : List Sh
  r : Sh
  q : TupT ante → TupT post → TupT as → Prop
  p : TupT ante → TupT post → TupT as → r.T

structure RecSpec (P : Program) (f : FuncId) (c : Rec) : Prop where
  callable : Callable P f
  flat : c.r.flat = true
  run : ∀ (w : World) (Z : Nat → Prop) (y1 : TupT c.ante) (y2 : TupT c.post) (x : TupT c.as) (ps1 ps2 vs : List Value) (b off : Nat), c.q y1 y2 x → ptrsRep w (fun _ => True) c.ante y1 ps1 → ptrsRep w (fun _ => True) c.post y2 ps2 → argsRep w Z c.as x vs →
    b < w.heap.size → w.cell? ⟨b, off, none⟩ = some (.func (.func f) #[] (ps1 ++ .pointer (some ⟨b, off, none⟩) :: ps2).toArray) →
    Calls P f (vs ++ (ps1 ++ .pointer (some ⟨b, off, none⟩) :: ps2)).toArray w (fun e w' => ∃ u, e = .returned u ∧ vrep w' (fun _ => True) c.r (c.p y1 y2 x) u ∧ Keep (fun _ => False) w w')

structure CloSpec (P : Program) (f : FuncId) (c : Clo) : Prop where
  callable : Callable P f
  run : ∀ (w : World) (Z : Nat → Prop) (y : TupT c.caps) (x : TupT c.as) (ps vs : List Value), c.q y x → ptrsRep w Z c.caps y ps → argsRep w Z c.as x vs →
    Calls P f (vs ++ ps).toArray w (fun e w' => ∃ u, e = .returned u ∧ vrep w' (fun b => Z b ∨ w.heap.size ≤ b) c.r (c.p y x) u ∧ Keep (fun _ => False) w w')

/-- What is known of the types, the functions and the closures. -/
structure Know where
  G : Lang
  T : FuncId → Option Con
  K : FuncId → Option Clo
  R : FuncId → Option Rec
  own : List Nat

structure KnowOK (P : Program) (E : Know) : Prop where
  lang : LangOK P E.G
  con : ∀ f c, E.T f = some c → FnSpec P f c
  clo : ∀ f c, E.K f = some c → CloSpec P f c
  self : ∀ f c, E.R f = some c → RecSpec P f c

/-! ### Arguments -/
def viewBV (s : AS) (sh : Sh) : BV → Option sh.T
  | .val sh' x => tryCast sh' sh x
  | .nils => match sh with
    | .sl _ => some []
    | _ => none
  | .ref r => match s.roots r with
    | some (.flat _ a xs) => tryCast (.sl a) sh xs
    | some (.deep _ _ a xss) => tryCast (.sl (.sl a)) sh xss
    | _ => none
  | .refi r i => match s.roots r with
    | some (.deep _ _ a xss) => if i < xss.length then tryCast (.sl a) sh (xss.getD i []) else none
    | _ => none
  | _ => none

def viewSV (s : AS) (sh : Sh) : SV → Option sh.T
  | .one b => viewBV s sh b
  | _ => none

def viewPtr (s : AS) (sh : Sh) : SV → Option sh.T
  | .one (.padr sh' x) => tryCast sh' sh x
  | .one (.box b) => match s.boxes b with
    | some (.one bv) => viewBV s sh bv
    | _ => none
  | _ => none

def viewSVs (s : AS) : (as : List Sh) → List SV → Option (TupT as)
  | [], [] => some ()
  | a :: as, v :: vs => match viewSV s a v, viewSVs s as vs with
    | some x, some y => some (x, y)
    | _, _ => none
  | _, _ => none

def viewCaps (s : AS) : (as : List Sh) → List Nat → Option (TupT as)
  | [], [] => some ()
  | a :: as, b :: bs => match viewPtr s a (.one (.box b)), viewCaps s as bs with
    | some x, some y => some (x, y)
    | _, _ => none
  | _, _ => none

def tryFn (as : List Sh) (r : Sh) (as' : List Sh) (r' : Sh) (f : (TupT as → Prop) × (TupT as → r.T)) : Option ((TupT as' → Prop) × (TupT as' → r'.T)) :=
  if h : as = as' ∧ r = r' then some (h.1 ▸ h.2 ▸ f) else none

theorem tryFn_self (as : List Sh) (r : Sh) (f : (TupT as → Prop) × (TupT as → r.T)) : tryFn as r as r f = some f := by simp [tryFn]

def viewFn (E : Know) (s : AS) (as : List Sh) (r : Sh) : SV → Option ((TupT as → Prop) × (TupT as → r.T))
  | .one (.fnv as' r' q p) => tryFn as' r' as r (q, p)
  | .one (.fn f caps) => match E.K f with
    | some c => if c.r.flat then match viewCaps s c.caps caps with
      | some y => tryFn c.as c.r as r (c.q y, c.p y)
      | none => none
      else none
    | none => none
  | _ => none

def viewPfn (as : List Sh) (r : Sh) : SV → Option ((TupT as → Prop) × (TupT as → r.T))
  | .one (.pfn as' r' q p) => tryFn as' r' as r (q, p)
  | _ => none

def viewA (E : Know) (s : AS) : (d : AD) → SV → Option d.T
  | .dat sh, v => viewSV s sh v
  | .ptr sh, v => viewPtr s sh v
  | .fnc as r, v => viewFn E s as r v
  | .pfn as r, v => viewPfn as r v
  | .lend, _ => none

def viewAs (E : Know) (s : AS) : (as : List AD) → List SV → Option (TupA as)
  | [], [] => some ()
  | a :: as, v :: vs => match viewA E s a v, viewAs E s as vs with
    | some x, some y => some (x, y)
    | _, _ => none
  | _, _ => none

/-- Nothing of the caller's own memory is handed on. -/
def strictSV : SV → Bool
  | .one (.val _ _) | .one .nils | .one (.padr _ _) | .one (.fnv ..) => true
  | _ => false

def rid (d j : Nat) : Nat := d + 1000 * j

/-- What the results are to the caller, from the j-th one on. -/
def resBVs (d : Nat) (strict : Bool) : Nat → List RV → List BV
  | _, [] => []
  | j, .val s x :: rs => (if strict || s.flat then .val s x else .any) :: resBVs d strict (j + 1) rs
  | j, .own _ :: rs => .ref (rid d j) :: resBVs d strict (j + 1) rs

def resRoots (d : Nat) : Nat → List RV → List (Nat × RC)
  | _, [] => []
  | j, .val _ _ :: rs => resRoots d (j + 1) rs
  | j, .own rc :: rs => (rid d j, rc) :: resRoots d (j + 1) rs

def packSV : List BV → SV
  | [b] => .one b
  | bs => .tup bs

def killRs (rs : List Nat) (b : BV) : BV := if (names b).any (fun r => rs.elem r) then .any else b

def AS.setRoots (s : AS) (l : List (Nat × RC)) : AS := { s with roots := fun r => match lk none (l.map fun p => (p.1, some p.2)) r with
  | some rc => some rc
  | none => s.roots r }

/-- A call of a function that has a contract. -/
def callE (E : Know) (nl : Nat) (s : AS) (dst : Option Tmp) (f : FuncId) (svs : List SV) : Prop × AS × SV :=
  match E.T f with
  | some c => match viewAs E s c.as svs with
    | some x => match resRoots (dst.getD 0) 0 (c.post x).res with
      | [] => (c.pre x, s, packSV (resBVs (dst.getD 0) (svs.all strictSV) 0 (c.post x).res))
      | l => (c.pre x ∧ nl ≤ dst.getD 0, (s.map (killRs (l.map (·.1)))).setRoots l, packSV (resBVs (dst.getD 0) (svs.all strictSV) 0 (c.post x).res))
    | none => badE s
  | none => badE s

/-- A call of a function value that was handed in. -/
def callV (s : AS) (svs : List SV) (as : List Sh) (r : Sh) (q : TupT as → Prop) (p : TupT as → r.T) : Prop × AS × SV :=
  match viewSVs s as svs with
  | some x => (q x, s, .one (if svs.all strictSV || r.flat then .val r (p x) else .any))
  | none => badE s

end Go.VS
