/- Value semantics, part C: what an operation that writes nothing yields, on abstract values. Over any program; no condition. -/
import Derived.Test.YtaldpinkkgdklaaVsB
namespace Go.VS
open Go.RowKit
set_option linter.unusedSimpArgs false
set_option linter.unusedVariables false

structure Lang where
  sh : Nat → Option Sh
  el : Nat → Nat
  plain : Nat → Bool
  fld : Nat → Nat → Option (Nat × Nat)
  ones : Nat → Option Nat
  fplain : Nat → Nat → Bool
  fnT : Nat → Bool

@[reducible] def idxOK (n : Int) (len : Nat) : Prop := 0 ≤ n ∧ n < (len : Int)
@[reducible] def cutOK (n : Int) (len : Nat) : Prop := 0 ≤ n ∧ n ≤ (len : Int)

def InR (n : Int) : Prop := -9223372036854775808 ≤ n ∧ n ≤ 9223372036854775807

def constSV : Value → SV
  | .int .i64 n => .one (.val .int n)
  | .int .u8 (.ofNat n) => .one (.val .byte n)
  | .bool b => .one (.val .bool b)
  | .string s => .one (.val .str s)
  | .slice none 0 0 => .one .nils
  | _ => .one .any

def ev (s : AS) : Operand → SV
  | .tmp t => s.env t
  | .const v => constSV v
  | .func f => .one (.fn f [])
  | .global _ => .one .any

/-! ### Fields -/
def tailF : Nat → Nat → (s : Sh) → s.T → Option ((s : Sh) × s.T)
  | 1, 0, s, x => some ⟨s, x⟩
  | _ + 2, 0, .prod a _, x => some ⟨a, x.1⟩
  | n + 2, f + 1, .prod _ b, x => tailF (n + 1) f b x.2
  | _, _, _, _ => none

def oneF : Nat → (s : Sh) → s.T → Option ((s : Sh) × s.T)
  | 0, .prod a .unit, x => some ⟨a, x.1⟩
  | _, _, _ => none

def oneO : Nat → Sh → Option Nat
  | 0, .prod _ .unit => some 0
  | _, _ => none

def fieldV (n f : Nat) (s : Sh) (x : s.T) : Option ((s : Sh) × s.T) := match n with
  | 1 => oneF f s x
  | n => tailF n f s x

def tailO : Nat → Nat → Sh → Option Nat
  | 1, 0, _ => some 0
  | _ + 2, 0, .prod _ _ => some 0
  | n + 2, f + 1, .prod a b => (tailO (n + 1) f b).map (a.size + ·)
  | _, _, _ => none

def fieldO (n f : Nat) (s : Sh) : Option Nat := match n with
  | 1 => oneO f s
  | n => tailO n f s

theorem tailF_pers {w : World} {Z : Nat → Prop} : ∀ (n f : Nat) (s : Sh) (x : s.T) (cs : List Value) (s' : Sh) (y : s'.T) (o : Nat), pers w Z s x cs → tailF n f s x = some ⟨s', y⟩ → tailO n f s = some o →
    ∃ pre c post, cs = pre ++ c ++ post ∧ pre.length = o ∧ pers w Z s' y c
  | 0, _, _, _, _, _, _, _, _, h, _ => by simp [tailF] at h
  | 1, 0, s, x, cs, s', y, o, hp, h, ho => by
    simp only [tailF, Option.some.injEq, Sigma.mk.injEq] at h
    obtain ⟨rfl, h⟩ := h
    simp only [tailO, Option.some.injEq] at ho
    subst ho
    simp only [heq_eq_eq] at h
    subst h
    exact ⟨[], cs, [], by simp, rfl, hp⟩
  | 1, _ + 1, _, _, _, _, _, _, _, h, _ => by simp [tailF] at h
  | _ + 2, 0, .prod a b, x, cs, s', y, o, hp, h, ho => by
    simp only [tailF, Option.some.injEq, Sigma.mk.injEq] at h
    obtain ⟨rfl, h⟩ := h
    simp only [tailO, Option.some.injEq] at ho
    subst ho
    simp only [heq_eq_eq] at h
    subst h
    obtain ⟨c, d, rfl, h1, _⟩ := hp
    exact ⟨[], c, d, by simp, rfl, h1⟩
  | n + 2, f + 1, .prod a b, x, cs, s', y, o, hp, h, ho => by
    simp only [tailF] at h
    simp only [tailO, Option.map_eq_some_iff] at ho
    obtain ⟨o', ho', rfl⟩ := ho
    obtain ⟨c, d, rfl, h1, h2⟩ := hp
    obtain ⟨pre, e, post, rfl, hl, hp'⟩ := tailF_pers (n + 1) f b x.2 d s' y o' h2 h ho'
    exact ⟨c ++ pre, e, post, by simp, by simp [pers_len _ _ _ h1, hl], hp'⟩
  | _ + 2, _, .int, _, _, _, _, _, _, h, _ | _ + 2, _, .bool, _, _, _, _, _, _, h, _ | _ + 2, _, .str, _, _, _, _, _, _, h, _ | _ + 2, _, .byte, _, _, _, _, _, _, h, _ | _ + 2, _, .unit, _, _, _, _, _, _, h, _
  | _ + 2, _, .sl _, _, _, _, _, _, _, h, _ => by simp [tailF] at h

theorem oneF_pers {w : World} {Z : Nat → Prop} (f : Nat) (s : Sh) (x : s.T) (cs : List Value) (s' : Sh) (y : s'.T) (o : Nat) (hp : pers w Z s x cs) (h : oneF f s x = some ⟨s', y⟩) (ho : oneO f s = some o) :
    ∃ pre c post, cs = pre ++ c ++ post ∧ pre.length = o ∧ pers w Z s' y c := by
  unfold oneF at h
  split at h
  · rename_i a x
    simp only [Option.some.injEq, Sigma.mk.injEq] at h
    obtain ⟨rfl, h⟩ := h
    simp only [heq_eq_eq] at h
    subst h
    simp only [oneO, Option.some.injEq] at ho
    subst ho
    obtain ⟨c, d, rfl, h1, _⟩ := hp
    exact ⟨[], c, d, by simp, rfl, h1⟩
  · simp at h

theorem fieldV_pers {w : World} {Z : Nat → Prop} (n f : Nat) (s : Sh) (x : s.T) (cs : List Value) (s' : Sh) (y : s'.T) (o : Nat) (hp : pers w Z s x cs) (h : fieldV n f s x = some ⟨s', y⟩) (ho : fieldO n f s = some o) :
    ∃ pre c post, cs = pre ++ c ++ post ∧ pre.length = o ∧ pers w Z s' y c := by
  match n, h, ho with
  | 0, h, ho => exact tailF_pers 0 f s x cs s' y o hp h ho
  | 1, h, ho => exact oneF_pers f s x cs s' y o hp h ho
  | n + 2, h, ho => exact tailF_pers (n + 2) f s x cs s' y o hp h ho

/-! ### What an operation yields -/
def bad : Prop × SV := (False, .one .any)

abbrev SV.I (n : Int) : SV := .one (.val .int n)
abbrev SV.B (b : Bool) : SV := .one (.val .bool b)
abbrev SV.minI (a b : Int) : SV := .I (min a b)
abbrev SV.maxI (a b : Int) : SV := .I (max a b)
abbrev SV.negI (a : Int) : Prop × SV := (InR (-a), .I (-a))
abbrev SV.ofNatI (a : Nat) : Prop × SV := (a < 256, .I (a : Int))

def binI (op : BinOp) (a b : Int) : Prop × SV :=
  match op with
  | .add => (InR (a + b), .I (a + b))
  | .sub => (InR (a - b), .I (a - b))
  | .mul => (InR (a * b), .I (a * b))
  | .quo => (b ≠ 0 ∧ InR (a.tdiv b), .I (a.tdiv b))
  | .rem => (b ≠ 0, .I (a.tmod b))
  | .eql => (True, .B (decide (a = b)))
  | .neq => (True, .B (!decide (a = b)))
  | .lss => (True, .B (decide (a < b)))
  | .leq => (True, .B (decide (a ≤ b)))
  | .gtr => (True, .B (decide (b < a)))
  | .geq => (True, .B (decide (b ≤ a)))
  | _ => bad

def binB (op : BinOp) (a b : Nat) : Prop × SV :=
  match op with
  | .eql => (True, .B (decide (a = b)))
  | .neq => (True, .B (!decide (a = b)))
  | .lss => (True, .B (decide (a < b)))
  | .leq => (True, .B (decide (a ≤ b)))
  | .gtr => (True, .B (decide (b < a)))
  | .geq => (True, .B (decide (b ≤ a)))
  | _ => bad

def pvEq (G : Lang) (t : TypeId) (neg : Bool) : SV → SV → Prop × SV
  | .one (.val .bool a), .one (.val .bool b) => (G.sh t = some .bool, .B (if neg then a != b else a == b))
  | .one (.val .str a), .one (.val .str b) => (G.sh t = some .str, .B (if neg then !decide (a = b) else decide (a = b)))
  | .one (.val (.prod .int .int) x), .one (.val (.prod .int .int) y) => (G.sh t = some (.prod .int .int), .B (if neg then !decide (x = y) else decide (x = y)))
  | .one .nils, .one .nils => (∃ sh, G.sh t = some (.sl sh), .B (!neg))
  | .one (.val (.sl sh) xs), .one .nils => (G.sh t = some (.sl sh), match xs with
    | [] => .one .unk
    | _ :: _ => .B neg)
  | _, _ => bad

def allVals (sh : Sh) : List SV → Option (List sh.T)
  | [] => some []
  | .one (.val s x) :: l => if h : s = sh then (allVals sh l).map (fun r => (h ▸ x) :: r) else none
  | _ :: _ => none

def boxIds : List SV → Option (List Nat)
  | [] => some []
  | .one (.box b) :: l => (boxIds l).map (b :: ·)
  | _ :: _ => none

/-- One cell, whatever it holds. -/
def BV.single : BV → Bool
  | .val s _ => !s.agg
  | .any | .skip | .fnv .. | .mk .. => false
  | _ => true

def leaf (s : Sh) : List BV → Option (s.T × List BV)
  | .val t x :: bs => if h : t = s then some (h ▸ x, bs) else none
  | _ => none

def leafSl (a : Sh) : List BV → Option (List a.T × List BV)
  | .nils :: bs => some (([] : List a.T), bs)
  | bs => leaf (.sl a) bs

/-- The datum whose cells these are. -/
def ofCells : (s : Sh) → List BV → Option (s.T × List BV)
  | .unit, bs => some ((), bs)
  | .prod a b, bs => match ofCells a bs with
    | some (x, r) => match ofCells b r with
      | some (y, r') => some ((x, y), r')
      | none => none
    | none => none
  | .sl a, bs => leafSl a bs
  | .int, bs => leaf .int bs
  | .bool, bs => leaf .bool bs
  | .str, bs => leaf .str bs
  | .byte, bs => leaf .byte bs

/-- The cells of a zero value. -/
def zeroCells : Sh → List BV
  | .unit => []
  | .prod a b => zeroCells a ++ zeroCells b
  | .sl _ => [.nils]
  | s => [.val s s.zero]

def setParts : List (Nat × SV) → List BV → Option (List BV)
  | [], bs => some bs
  | (i, .one b) :: l, bs => if i < bs.length ∧ b.single = true then setParts l (bs.set i b) else none
  | _ :: _, _ => none

def mkStruct (sh : Sh) (bs : List BV) : SV := match ofCells sh bs with
  | some (x, []) => .one (.val sh x)
  | _ => .rcd bs

def pv (G : Lang) (s : AS) : Op → Prop × SV
  | .move x | .assign x => (True, ev s x)
  | .pick c a b => match ev s c with
    | .one (.val .bool t) => (True, if t then ev s a else ev s b)
    | _ => bad
  | .load t a => match ev s a with
    | .one (.padr sh x) => (G.sh t = some sh, .one (.val sh x))
    | .one (.pfn as r q p) => (G.plain t = true, .one (.fnv as r q p))
    | .one (.adr r i sz) => match s.roots r with
      | some (.flat _ sh xs) => (G.sh t = some sh ∧ sz = sh.size ∧ i < xs.length, .one (.val sh (xs.getD i sh.zero)))
      | some (.deep _ _ sh xss) => (G.sh t = some (.sl sh) ∧ sz = 1 ∧ i < xss.length, .one (.refi r i))
      | some (.hole _ _ sh xss k) => (G.sh t = some (.sl sh) ∧ sz = 1 ∧ i < xss.length ∧ i ≠ k, .one (.refi r i))
      | none => bad
    | .one (.adri r i j sz) => match s.roots r with
      | some (.deep _ _ sh xss) => (G.sh t = some sh ∧ sz = sh.size ∧ i < xss.length ∧ j < (xss.getD i []).length, .one (.val sh ((xss.getD i []).getD j sh.zero)))
      | _ => bad
    | .one (.box b) => match s.boxes b with
      | some (.one (.val sh x)) => (G.sh t = some sh, .one (.val sh x))
      | some (.one bv) => (G.plain t = true ∧ bv.single = true, .one bv)
      | some (.rcd bs) => match G.sh t with
        | some sh => (G.ones t = some bs.length ∧ sh.agg = true, mkStruct sh bs)
        | none => (G.ones t = some bs.length, .rcd bs)
      | _ => bad
    | .one (.boxf b n f off) => match s.boxes b with
      | some (.one (.val sh x)) => match fieldV n f sh x with
        | some ⟨sh', y⟩ => (fieldO n f sh = some off ∧ G.sh t = some sh', .one (.val sh' y))
        | none => bad
      | some (.rcd bs) => (G.plain t = true ∧ off < bs.length, .one (bs.getD off .any))
      | _ => bad
    | _ => bad
  | .nilCheck x => match ev s x with
    | .one (.padr ..) | .one (.box _) | .one (.boxf ..) | .one (.adr ..) => (True, ev s x)
    | _ => bad
  | .binOp op t x y _ => match ev s x, ev s y with
    | .one (.val .int a), .one (.val .int b) => binI op a b
    | .one (.val .byte a), .one (.val .byte b) => binB op a b
    | u, v => match op with
      | .eql => pvEq G t false u v
      | .neq => pvEq G t true u v
      | _ => bad
  | .unOp op _ x => match op, ev s x with
    | .not, .one (.val .bool b) => (True, .B (!b))
    | .neg, .one (.val .int n) => SV.negI n
    | _, _ => bad
  | .convert src dst x => match ev s x with
    | .one (.val .int n) => (G.sh src = some .int ∧ G.sh dst = some .int ∧ InR n, .I n)
    | .one (.val .byte n) => (G.sh src = some .byte ∧ G.sh dst = some .int ∧ (SV.ofNatI n).1, (SV.ofNatI n).2)
    | _ => bad
  | .fieldAddr t x f => match ev s x, G.fld t f with
    | .one (.box b), some (n, off) => (True, .one (.boxf b n f off))
    | .one (.padr sh x), some (n, _) => match fieldV n f sh x with
      | some ⟨sh', y⟩ => (G.sh t = some sh, .one (.padr sh' y))
      | none => bad
    | _, _ => bad
  | .field t x f => match ev s x, G.fld t f with
    | .one (.val sh x), some (n, _) => match fieldV n f sh x with
      | some ⟨sh', y⟩ => (G.sh t = some sh, .one (.val sh' y))
      | none => bad
    | .rcd bs, some (_, off) => (G.fplain t f = true ∧ off < bs.length, .one (bs.getD off .any))
    | _, _ => bad
  | .indexAddr t x i => match ev s x, ev s i with
    | .one (.val (.sl sh) xs), .one (.val .int n) => (G.sh t = some (.sl sh) ∧ idxOK n (List.length xs), .one (.padr sh (List.getD xs n.toNat sh.zero)))
    | .one (.ref r), .one (.val .int n) => match s.roots r with
      | some (.flat _ sh xs) => (G.sh t = some (.sl sh) ∧ idxOK n xs.length, .one (.adr r n.toNat sh.size))
      | some (.deep _ _ sh xss) => (G.sh t = some (.sl (.sl sh)) ∧ idxOK n xss.length, .one (.adr r n.toNat 1))
      | some (.hole _ _ sh xss _) => (G.sh t = some (.sl (.sl sh)) ∧ idxOK n xss.length, .one (.adr r n.toNat 1))
      | none => bad
    | .one (.refi r k), .one (.val .int n) => match s.roots r with
      | some (.deep _ _ sh xss) => (G.sh t = some (.sl sh) ∧ k < xss.length ∧ idxOK n (xss.getD k []).length, .one (.adri r k n.toNat sh.size))
      | _ => bad
    | _, _ => bad
  | .index t x i => match ev s x, ev s i with
    | .one (.val .str b), .one (.val .int n) => (G.sh t = some .str ∧ idxOK n (ByteArray.size b), .one (.val .byte (b.data.toList.getD n.toNat 0).toNat))
    | _, _ => bad
  | .slice t x lo hi none => match ev s x, lo.map (ev s), hi.map (ev s) with
    | .one (.val (.sl sh) xs), none, none => (G.sh t = some (.sl sh), .one (.val (.sl sh) xs))
    | .one (.val (.sl sh) xs), some (.one (.val .int l)), none => (G.sh t = some (.sl sh) ∧ cutOK l (List.length xs), .one (.val (.sl sh) (List.drop l.toNat xs)))
    | .one (.val (.sl sh) xs), none, some (.one (.val .int h)) => (G.sh t = some (.sl sh) ∧ cutOK h (List.length xs), .one (.val (.sl sh) (List.take h.toNat xs)))
    | _, _, _ => bad
  | .extract x i => match ev s x with
    | .tup bs => (i < bs.length, .one (bs.getD i .any))
    | _ => bad
  | .build t parts => match G.sh t, G.ones t with
    | some sh, some n => match setParts (parts.toList.map fun p => (p.1, ev s p.2)) (zeroCells sh) with
      | some bs => ((zeroCells sh).length = n ∧ sh.agg = true, mkStruct sh bs)
      | none => bad
    | _, _ => bad
  | .buildSlice t n parts => match G.sh t with
    | some (.sl sh) => match allVals sh (parts.toList.map fun p => ev s p.2) with
      | some xs => (parts.toList.map (·.1) = List.range n ∧ n ≤ 1000, .one (.val (.sl sh) xs))
      | none => match parts.toList, n with
        | [(0, x)], 1 => match ev s x, sh with
          | .one (.ref r), .sl _ => ((s.roots r).isSome, .one (.lits r))
          | _, _ => bad
        | _, _ => bad
    | _ => bad
  | .makeFunc (.func f) first captured => match first.toList, boxIds (captured.toList.map (ev s)) with
    | [], some ids => (True, .one (.fn f ids))
    | _, _ => bad
  | .call { callee := .builtin .len, args, argTypes } => match args.toList, argTypes.toList with
    | [x], [t] => match ev s x with
      | .one (.val (.sl sh) xs) => (G.sh t = some (.sl sh), .I (List.length xs : Nat))
      | .one (.val .str b) => (G.sh t = some .str, .I (b.size : Nat))
      | .one .nils => (∃ sh, G.sh t = some (.sl sh), .I 0)
      | .one (.ref r) => match s.roots r with
        | some (.flat _ sh xs) => (G.sh t = some (.sl sh), .I (xs.length : Nat))
        | some (.deep _ _ sh xss) => (G.sh t = some (.sl (.sl sh)), .I (xss.length : Nat))
        | some (.hole _ _ sh xss _) => (G.sh t = some (.sl (.sl sh)), .I (xss.length : Nat))
        | none => bad
      | .one (.refi r i) => match s.roots r with
        | some (.deep _ _ sh xss) => (G.sh t = some (.sl sh) ∧ i < xss.length, .I ((xss.getD i []).length : Nat))
        | _ => bad
      | _ => bad
    | _, _ => bad
  | .call { callee := .builtin .min, args, .. } => match args.toList with
    | [x, y] => match ev s x, ev s y with
      | .one (.val .int a), .one (.val .int b) => (True, SV.minI a b)
      | _, _ => bad
    | _ => bad
  | .call { callee := .builtin .max, args, .. } => match args.toList with
    | [x, y] => match ev s x, ev s y with
      | .one (.val .int a), .one (.val .int b) => (True, SV.maxI a b)
      | _, _ => bad
    | _ => bad
  | _ => bad

/-! ### What the tables of types are worth -/
def aggB : TypeDesc → Bool
  | .struct _ | .array _ _ => true
  | _ => false

structure FieldIs (P : Program) (G : Lang) (t f n off : Nat) : Prop where
  ok : ∃ fs fld, P.underlying t = some (.struct fs) ∧ fs.size = n ∧ fs[f]? = some fld ∧ fld.offset = off ∧
    ∃ i, P.info? fld.type = some i ∧ i.size ≠ 0

structure LangOK (P : Program) (G : Lang) : Prop where
  info : ∀ t s, G.sh t = some s → ∃ i z, P.info? t = some i ∧ i.size = s.size ∧ i.bytes ≤ 1024 ∧ i.zero = some z ∧ z.cells.toList = s.cells s.zero
  agg : ∀ t s, G.sh t = some s → ∃ d, P.underlying t = some d ∧ aggB d = s.agg
  int : ∀ t, G.sh t = some .int → P.underlying t = some (.int .i64)
  byte : ∀ t, G.sh t = some .byte → P.underlying t = some (.int .u8)
  bool : ∀ t, G.sh t = some .bool → P.underlying t = some .bool
  str : ∀ t, G.sh t = some .str → P.underlying t = some .string
  sl : ∀ t s, G.sh t = some (.sl s) → P.underlying t = some (.slice (G.el t)) ∧ G.sh (G.el t) = some s ∧ 0 < s.size ∧ s.size ≤ 1024
  plain : ∀ t, G.plain t = true → ∃ d i, P.underlying t = some d ∧ aggB d = false ∧ P.info? t = some i ∧ i.size = 1
  fld : ∀ t f n off, G.fld t f = some (n, off) → FieldIs P G t f n off
  fldO : ∀ t f n off s, G.fld t f = some (n, off) → G.sh t = some s → fieldO n f s = some off ∧ s.agg = true
  fldT : ∀ t f n off s s', G.fld t f = some (n, off) → G.sh t = some s → (∀ x : s.T, ∀ y : s'.T, fieldV n f s x = some ⟨s', y⟩ → ∃ fs fld, P.underlying t = some (.struct fs) ∧ fs[f]? = some fld ∧ G.sh fld.type = some s')
  pair : ∀ t, G.sh t = some (.prod .int .int) → ∀ (w : World) (a b c d : Int) (x y : Operand),
    (do eqGuard .eql t x y (.agg #[.int .i64 a, .int .i64 b]) (.agg #[.int .i64 c, .int .i64 d]); binOp .eql t (.agg #[.int .i64 a, .int .i64 b]) (.agg #[.int .i64 c, .int .i64 d])).run P w = .ok (.bool (a == c && b == d)) w ∧
    (do eqGuard .neq t x y (.agg #[.int .i64 a, .int .i64 b]) (.agg #[.int .i64 c, .int .i64 d]); binOp .neq t (.agg #[.int .i64 a, .int .i64 b]) (.agg #[.int .i64 c, .int .i64 d])).run P w = .ok (.bool (!(a == c && b == d))) w
  ones : ∀ t n, G.ones t = some n → ∃ fs i z, P.underlying t = some (.struct fs) ∧ P.info? t = some i ∧ i.size = n ∧ i.zero = some (.agg z) ∧ z.size = n ∧
    fs.toList.mapM (fun f => (P.info? f.type).map fun i => (f.offset, i.size)) = some ((List.range n).map fun k => (k, 1))
  fplain : ∀ t f n off, G.fplain t f = true → G.fld t f = some (n, off) → ∃ fs fld d, P.underlying t = some (.struct fs) ∧ fs[f]? = some fld ∧ P.underlying fld.type = some d ∧ aggB d = false
  mixed : P.follows .mixedOrders = true
  fnT : ∀ t, G.fnT t = true → ∃ i, P.info? t = some i ∧ i.zero = some .nilFunc

end Go.VS
