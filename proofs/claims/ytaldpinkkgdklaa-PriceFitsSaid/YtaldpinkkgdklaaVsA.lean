/- Value semantics, part A: shapes of plain data, what a value in memory stands for, and the abstract state. Over any program; no condition. -/
import Derived.WalkKit
import Derived.Below
import Derived.Laws.AppendOwn
import Derived.Laws.OwnMore
namespace Go.VS
open Go.RowKit
set_option linter.unusedSimpArgs false
set_option linter.unusedVariables false

inductive Sh where
  | int | bool | str | byte | unit | prod (a b : Sh) | sl (a : Sh)
  deriving DecidableEq

@[reducible] def Sh.T : Sh → Type
  | .int => Int
  | .bool => Bool
  | .str => ByteArray
  | .byte => Nat
  | .unit => Unit
  | .prod a b => a.T × b.T
  | .sl a => List a.T

def Sh.size : Sh → Nat
  | .unit => 0
  | .prod a b => a.size + b.size
  | _ => 1

def Sh.agg : Sh → Bool
  | .unit | .prod _ _ => true
  | _ => false

def Sh.flat : Sh → Bool
  | .sl _ => false
  | .prod a b => a.flat && b.flat
  | _ => true

def Sh.zero : (s : Sh) → s.T
  | .int => (0 : Int)
  | .bool => false
  | .str => ByteArray.empty
  | .byte => (0 : Nat)
  | .unit => ()
  | .prod a b => (a.zero, b.zero)
  | .sl a => ([] : List a.T)

/-- The cells of a datum without slices. -/
def Sh.cells : (s : Sh) → s.T → List Value
  | .int, n => [.int .i64 n]
  | .bool, b => [.bool b]
  | .str, x => [.string x]
  | .byte, n => [.int .u8 (n : Nat)]
  | .unit, _ => []
  | .prod a b, x => a.cells x.1 ++ b.cells x.2
  | .sl _, _ => [.slice none 0 0]

/-- The cells 'cs' stand for the datum x; every block that is read lies in the zone Z. -/
def pers (w : World) (Z : Nat → Prop) : (s : Sh) → s.T → List Value → Prop
  | .int, n, cs => cs = [.int .i64 n]
  | .bool, b, cs => cs = [.bool b]
  | .str, x, cs => cs = [.string x]
  | .byte, n, cs => cs = [.int .u8 (n : Nat)]
  | .unit, _, cs => cs = []
  | .prod a b, x, cs => ∃ c d, cs = c ++ d ∧ pers w Z a x.1 c ∧ pers w Z b x.2 d
  | .sl s, xs, cs => ∃ a cap, cs = [.slice a (List.length xs) cap] ∧ List.length xs ≤ cap ∧ cap ≤ maxLen ∧
      ∀ i, (h : i < List.length xs) → ∃ b off c, a = some ⟨b, off, none⟩ ∧ Z b ∧ b < w.heap.size ∧ pers w Z s (xs[i]'h) c ∧
        ∀ j v, c[j]? = some v → w.cell? ⟨b, off + (i * s.size + j), none⟩ = some v

theorem pers_len {w : World} {Z : Nat → Prop} : ∀ (s : Sh) (x : s.T) (cs : List Value), pers w Z s x cs → cs.length = s.size
  | .int, _, _, h | .bool, _, _, h | .str, _, _, h | .byte, _, _, h | .unit, _, _, h => by
    simp only [pers] at h; subst h; rfl
  | .prod a b, x, cs, h => by
    obtain ⟨c, d, rfl, h1, h2⟩ := h
    simp [Sh.size, pers_len a _ _ h1, pers_len b _ _ h2]
  | .sl s, xs, cs, h => by
    obtain ⟨a, cap, rfl, _⟩ := h
    rfl

theorem pers_mono {w w' : World} {Z Z' : Nat → Prop} (hs : w.heap.size ≤ w'.heap.size) (hz : ∀ b, b < w.heap.size → Z b → Z' b ∧ w'.heap[b]? = w.heap[b]?) :
    ∀ (s : Sh) (x : s.T) (cs : List Value), pers w Z s x cs → pers w' Z' s x cs
  | .int, _, _, h | .bool, _, _, h | .str, _, _, h | .byte, _, _, h | .unit, _, _, h => h
  | .prod a b, x, cs, h => by
    obtain ⟨c, d, rfl, h1, h2⟩ := h
    exact ⟨c, d, rfl, pers_mono hs hz a _ _ h1, pers_mono hs hz b _ _ h2⟩
  | .sl s, xs, cs, h => by
    obtain ⟨a, cap, rfl, hc, hm, hall⟩ := h
    refine ⟨a, cap, rfl, hc, hm, fun i hi => ?_⟩
    obtain ⟨b, off, c, ha, hZ, hlt, hp, hcell⟩ := hall i hi
    refine ⟨b, off, c, ha, (hz b hlt hZ).1, Nat.lt_of_lt_of_le hlt hs, pers_mono hs hz s _ _ hp, fun j v hj => ?_⟩
    rw [World.cell?_of_block (w := w) (w' := w') (a := ⟨b, off + (i * s.size + j), none⟩) (hz b hlt hZ).2]
    exact hcell j v hj

theorem vrep_mono {w w' : World} {Z Z' : Nat → Prop} (hs : w.heap.size ≤ w'.heap.size) (hz : ∀ b, b < w.heap.size → Z b → Z' b ∧ w'.heap[b]? = w.heap[b]?)
    (s : Sh) (x : s.T) (v : Value) (h : ∃ cs, pers w Z s x cs ∧ v = (if s.agg then Value.agg cs.toArray else cs.headD undef)) :
    ∃ cs, pers w' Z' s x cs ∧ v = (if s.agg then Value.agg cs.toArray else cs.headD undef) :=
  let ⟨cs, h1, h2⟩ := h
  ⟨cs, pers_mono hs hz s x cs h1, h2⟩

theorem pers_flat {w : World} {Z : Nat → Prop} : ∀ (s : Sh) (x : s.T) (cs : List Value), s.flat = true → (pers w Z s x cs ↔ cs = s.cells x)
  | .int, _, _, _ | .bool, _, _, _ | .str, _, _, _ | .byte, _, _, _ | .unit, _, _, _ => Iff.rfl
  | .prod a b, x, cs, h => by
    simp only [Sh.flat, Bool.and_eq_true] at h
    simp only [pers, Sh.cells]
    constructor
    · rintro ⟨c, d, rfl, h1, h2⟩
      rw [(pers_flat a _ _ h.1).1 h1, (pers_flat b _ _ h.2).1 h2]
    · rintro rfl
      exact ⟨_, _, rfl, (pers_flat a _ _ h.1).2 rfl, (pers_flat b _ _ h.2).2 rfl⟩
  | .sl _, _, _, h => by simp [Sh.flat] at h

theorem cells_len : ∀ (s : Sh) (x : s.T), (s.cells x).length = s.size
  | .int, _ | .bool, _ | .str, _ | .byte, _ | .unit, _ | .sl _, _ => rfl
  | .prod a b, x => by simp [Sh.cells, Sh.size, cells_len a, cells_len b]

theorem cells_one : ∀ (s : Sh) (x : s.T), ∀ v ∈ s.cells x, v.oneCell' = true
  | .int, _, v, h | .bool, _, v, h | .str, _, v, h | .byte, _, v, h | .sl _, _, v, h => by
    simp [Sh.cells] at h; subst h; rfl
  | .unit, _, v, h => by simp [Sh.cells] at h
  | .prod a b, x, v, h => by
    simp only [Sh.cells, List.mem_append] at h
    rcases h with h | h
    · exact cells_one a _ v h
    · exact cells_one b _ v h

theorem pers_one {w : World} {Z : Nat → Prop} : ∀ (s : Sh) (x : s.T) (cs : List Value), pers w Z s x cs → ∀ v ∈ cs, v.oneCell' = true
  | .int, _, _, h, v, hv | .bool, _, _, h, v, hv | .str, _, _, h, v, hv | .byte, _, _, h, v, hv => by
    simp only [pers] at h; subst h; simp at hv; subst hv; rfl
  | .unit, _, _, h, v, hv => by simp only [pers] at h; subst h; simp at hv
  | .prod a b, x, _, h, v, hv => by
    obtain ⟨c, d, rfl, h1, h2⟩ := h
    rcases List.mem_append.1 hv with hv | hv
    · exact pers_one a _ _ h1 v hv
    · exact pers_one b _ _ h2 v hv
  | .sl s, xs, _, h, v, hv => by
    obtain ⟨a, cap, rfl, _⟩ := h
    simp at hv; subst hv; rfl

/-- The value that holds these cells. -/
def pack (s : Sh) (cs : List Value) : Value := if s.agg then .agg cs.toArray else cs.headD undef

def vrep (w : World) (Z : Nat → Prop) (s : Sh) (x : s.T) (v : Value) : Prop := ∃ cs, pers w Z s x cs ∧ v = pack s cs

theorem pack_cells {w : World} {Z : Nat → Prop} (s : Sh) (x : s.T) (cs : List Value) (h : pers w Z s x cs) : (pack s cs).cells.toList = cs := by
  unfold pack
  cases s with
  | unit => simp only [pers] at h; subst h; rfl
  | prod a b => simp [Sh.agg, Value.cells]
  | int => simp only [pers] at h; subst h; rfl
  | bool => simp only [pers] at h; subst h; rfl
  | str => simp only [pers] at h; subst h; rfl
  | byte => simp only [pers] at h; subst h; rfl
  | sl s => obtain ⟨a, cap, rfl, _⟩ := h; rfl

/-! ### Lists of arguments -/
@[reducible] def TupT : List Sh → Type
  | [] => Unit
  | a :: as => a.T × TupT as

def argsRep (w : World) (Z : Nat → Prop) : (as : List Sh) → TupT as → List Value → Prop
  | [], _, vs => vs = []
  | a :: as, x, vs => ∃ v vs', vs = v :: vs' ∧ vrep w Z a x.1 v ∧ argsRep w Z as x.2 vs'

/-! ### The frame of a call -/
structure Keep (L : Nat → Prop) (w0 w : World) : Prop where
  os : w.os = w0.os
  tape : w.tape = w0.tape
  output : w.output = w0.output
  size : w0.heap.size ≤ w.heap.size
  block : ∀ k, k < w0.heap.size → ¬ L k → w.heap[k]? = w0.heap[k]?

theorem Keep.refl (L : Nat → Prop) (w : World) : Keep L w w := ⟨rfl, rfl, rfl, Nat.le_refl _, fun _ _ _ => rfl⟩

theorem Keep.below {w0 w : World} (h : Keep (fun _ => False) w0 w) : Below w0.heap.size w0 w :=
  ⟨h.os, h.tape, h.output, h.size, fun k hk => h.block k hk (fun h => h)⟩

theorem Keep.of_below {L : Nat → Prop} {w0 w : World} (h : Below w0.heap.size w0 w) : Keep L w0 w :=
  ⟨h.os, h.tape, h.output, h.size, fun k hk _ => h.block k hk⟩

/-- A step that touches, of what was there, only the blocks of 'M'. -/
theorem Keep.step {L M : Nat → Prop} {w0 w w' : World} (h : Keep L w0 w) (k : Keep M w w') (hM : ∀ b, M b → b < w0.heap.size → L b) : Keep L w0 w' :=
  ⟨k.os.trans h.os, k.tape.trans h.tape, k.output.trans h.output, Nat.le_trans h.size k.size, fun b hb hL =>
    (k.block b (Nat.lt_of_lt_of_le hb h.size) (fun hm => hL (hM b hm hb))).trans (h.block b hb hL)⟩

def Callable (P : Program) (f : FuncId) : Prop := ∃ fn, P.funcs[f]? = some fn ∧ (fn.name == "runtime.NumGoroutine") = false ∧ fn.body.isNone = false

/-- A function value that, called on data of these shapes in any later world, answers p and leaves all that was there. -/
def FnOK (P : Program) (L : Nat → Prop) (w0 : World) (as : List Sh) (r : Sh) (q : TupT as → Prop) (p : TupT as → r.T) (v : Value) : Prop :=
  ∃ f caps, v = .func (.func f) #[] caps ∧ Callable P f ∧ ∀ (w1 : World) (Z : Nat → Prop) (x : TupT as) (vs : List Value), Keep L w0 w1 → q x → argsRep w1 Z as x vs →
    Calls P f (vs.toArray ++ caps) w1 (fun e w2 => ∃ u, e = .returned u ∧ vrep w2 (fun b => Z b ∨ w1.heap.size ≤ b) r (p x) u ∧ Keep (fun _ => False) w1 w2)

/-! ### Abstract values -/
inductive BV where
  | any
  | val (s : Sh) (x : s.T)
  | nils
  | ref (r : Nat)
  | refi (r i : Nat)
  | adr (r i sz : Nat)
  | adri (r i j sz : Nat)
  | box (b : Nat)
  | boxf (b n f off : Nat)
  | padr (s : Sh) (x : s.T)
  | fn (f : FuncId) (caps : List Nat)
  | fnv (as : List Sh) (r : Sh) (q : TupT as → Prop) (p : TupT as → r.T)
  | pfn (as : List Sh) (r : Sh) (q : TupT as → Prop) (p : TupT as → r.T)
  | nilf
  | unk
  | lits (r : Nat)
  | mk (d : Nat) (e : TypeId) (s : Sh) (xs : List s.T)
  | skip

inductive SV where
  | one (b : BV)
  | tup (bs : List BV)
  | rcd (bs : List BV)

inductive RC where
  | flat (e : TypeId) (s : Sh) (xs : List s.T)
  | deep (e e2 : TypeId) (s : Sh) (xss : List (List s.T))
  | hole (e e2 : TypeId) (s : Sh) (xss : List (List s.T)) (i : Nat)

structure AS where
  env : Nat → SV
  roots : Nat → Option RC
  boxes : Nat → Option SV

inductive Loc where
  | hd (r : Nat)
  | row (r i : Nat)
  | bx (b : Nat)
  | mk (d : Nat)
  deriving DecidableEq

/-- A slice's header. -/
structure Sl where
  a : Option Addr
  n : Nat
  cap : Nat

def Sl.v (x : Sl) : Value := .slice x.a x.n x.cap

structure Gam where
  hs : Nat → Sl
  rs : Nat → Nat → Sl
  bx : Nat → Nat
  own : Nat → Option Loc

def Gam.hd (γ : Gam) (r : Nat) : Value := (γ.hs r).v
def Gam.rows (γ : Gam) (r i : Nat) : Value := (γ.rs r i).v

structure Ctx where
  P : Program
  L : Nat → Prop
  w0 : World
  Z : Nat → Prop
  nl : Nat
  lh : Nat → Value

def Ctx.zn (C : Ctx) (γ : Gam) (b : Nat) : Prop := (C.Z b ∨ C.w0.heap.size ≤ b ∨ C.L b) ∧ γ.own b = none

/-- The block of a slice's header belongs to that place, and it may be written. -/
def ownB (C : Ctx) (γ : Gam) (v : Value) (l : Loc) : Prop := ∀ k, v.ownBlock = some k → γ.own k = some l ∧ (C.w0.heap.size ≤ k ∨ C.L k)

def bvRep (C : Ctx) (γ : Gam) (w : World) : BV → Value → Prop
  | .any, _ => True
  | .val s x, v => vrep w (C.zn γ) s x v
  | .nils, v => v = .slice none 0 0
  | .ref r, v => v = γ.hd r
  | .refi r i, v => v = γ.rows r i
  | .adr r i sz, v => ∃ g n cap, γ.hd r = .slice (some ⟨g, 0, none⟩) n cap ∧ v = .pointer (some ⟨g, i * sz, none⟩)
  | .adri r i j sz, v => ∃ g n cap, γ.rows r i = .slice (some ⟨g, 0, none⟩) n cap ∧ v = .pointer (some ⟨g, j * sz, none⟩)
  | .box b, v => v = .pointer (some ⟨γ.bx b, 0, none⟩)
  | .boxf b _ _ off, v => v = .pointer (some ⟨γ.bx b, off, none⟩)
  | .padr s x, v => ∃ b off cs, v = .pointer (some ⟨b, off, none⟩) ∧ C.zn γ b ∧ b < w.heap.size ∧ pers w (C.zn γ) s x cs ∧ ∀ j c, cs[j]? = some c → w.cell? ⟨b, off + j, none⟩ = some c
  | .fn f caps, v => v = .func (.func f) #[] (caps.map fun b => Value.pointer (some ⟨γ.bx b, 0, none⟩)).toArray
  | .fnv as r q p, v => FnOK C.P C.L C.w0 as r q p v
  | .pfn as r q p, v => ∃ b off c, v = .pointer (some ⟨b, off, none⟩) ∧ C.zn γ b ∧ b < w.heap.size ∧ w.cell? ⟨b, off, none⟩ = some c ∧ FnOK C.P C.L C.w0 as r q p c
  | .nilf, v => v = .nilFunc
  | .unk, v => ∃ b, v = .bool b
  | .lits r, v => ∃ g cap, v = .slice (some ⟨g, 0, none⟩) 1 cap ∧ C.zn γ g ∧ g < w.heap.size ∧ w.cell? ⟨g, 0, none⟩ = some (γ.hd r)
  | .mk d e s xs, v => s.flat = true ∧ w.ownsRow 0 e s.size v xs.length (xs.flatMap s.cells) ∧ ownB C γ v (.mk d)
  | .skip, v => v = undef

def bvsRep (C : Ctx) (γ : Gam) (w : World) : List BV → List Value → Prop
  | [], vs => vs = []
  | b :: bs, vs => ∃ v vs', vs = v :: vs' ∧ bvRep C γ w b v ∧ bvsRep C γ w bs vs'

def svRep (C : Ctx) (γ : Gam) (w : World) : SV → Value → Prop
  | .one b, v => bvRep C γ w b v
  | .tup bs, v => ∃ vs, v = .tuple vs.toArray ∧ bvsRep C γ w bs vs
  | .rcd bs, v => ∃ vs, v = .agg vs.toArray ∧ bvsRep C γ w bs vs ∧ ∀ u ∈ vs, u.oneCell' = true

def rowsOf (γ : Gam) (r n : Nat) : List Value := (List.range n).map (γ.rows r)

def rowRep (C : Ctx) (γ : Gam) (w : World) (r : Nat) (e2 : TypeId) (s : Sh) (i : Nat) (xs : List s.T) : Prop :=
  w.ownsRow 0 e2 s.size (γ.rows r i) xs.length (xs.flatMap s.cells) ∧ ownB C γ (γ.rows r i) (.row r i)

def rcRep (C : Ctx) (γ : Gam) (w : World) (r : Nat) : RC → Prop
  | .flat e s xs => s.flat = true ∧ w.ownsRow 0 e s.size (γ.hd r) xs.length (xs.flatMap s.cells) ∧ ownB C γ (γ.hd r) (.hd r)
  | .deep e e2 s xss => s.flat = true ∧ w.ownsRow 0 e 1 (γ.hd r) xss.length (rowsOf γ r xss.length) ∧ ownB C γ (γ.hd r) (.hd r) ∧
      ∀ i xs, xss[i]? = some xs → rowRep C γ w r e2 s i xs
  | .hole e e2 s xss k => s.flat = true ∧ w.ownsRow 0 e 1 (γ.hd r) xss.length (rowsOf γ r xss.length) ∧ ownB C γ (γ.hd r) (.hd r) ∧
      ∀ i xs, i ≠ k → xss[i]? = some xs → rowRep C γ w r e2 s i xs

def boxCells (C : Ctx) (γ : Gam) (w : World) : SV → List Value → Prop
  | .one b, cs => ∃ v, bvRep C γ w b v ∧ cs = v.cells.toList
  | .rcd bs, cs => bvsRep C γ w bs cs
  | .tup _, _ => False

def bxRep (C : Ctx) (γ : Gam) (w : World) (b : Nat) (sv : SV) : Prop :=
  ∃ cs t, w.heap[γ.bx b]? = some (.cells cs t (0, 0)) ∧ boxCells C γ w sv cs.toList ∧ (∀ u ∈ cs.toList, u.oneCell' = true) ∧ γ.own (γ.bx b) = some (.bx b) ∧ C.w0.heap.size ≤ γ.bx b

structure Rel (C : Ctx) (γ : Gam) (s : AS) (a : Act) (w : World) : Prop where
  defers : a.defers = []
  keep : Keep C.L C.w0 w
  ownlt : ∀ k l, γ.own k = some l → k < w.heap.size
  lent : ∀ r, r < C.nl → γ.hd r = C.lh r
  env : ∀ i, svRep C γ w (s.env i) (a.tmps.getD i undef)
  roots : ∀ r rc, s.roots r = some rc → rcRep C γ w r rc
  boxes : ∀ b sv, s.boxes b = some sv → bxRep C γ w b sv

end Go.VS
