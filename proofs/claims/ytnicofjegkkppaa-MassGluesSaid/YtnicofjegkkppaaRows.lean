/-
  No cell of these rows narrows 'for every input' (looked for: loops, veiled, ifaces, maps, wideKeys, modest, calm, conditions, laid).
  DERIVED. THE GIVEN ROWS OF THIS SEAT. 13 by the template 'for every input the law returns true; each argument reads behind the call as it read before'; 0 by the template 'total and deterministic' (their statements: YtnicofjegkkppaaTotals.lean).
  GIVEN WITH THE SEED: the statements are not yours to turn. If you find one false, say at which input.
  Laid BY PROGRAM, IN A SANDBOX (cutbox-rows.mjs): the forced cells as the released guide's own fill.sh prints them over the translation 17ea5ca56505a449… (all of the seat's roots in one cut). By AI agents, Wed Nov 11 2026. No macro, syntax, notation, axiom, sorry.
-/
import Derived.Test.YtnicofjegkkppaaChecked
import GoSem.Claim
import GoSem.ClaimJoined
import GoSem.ClaimMapViews
import Derived.JoinedTies
import Derived.KernelRfl
namespace Go.Proofs.Ytnicofjegkkppaa
/- THE CELL 'sum', in the pinned program and in every row, IS THE sha256 OF THE DUMP (.gsa) THAT YtnicofjegkkppaaProg.lean LOADS. Nothing in Lean hashes anything: it is a label: what it is worth is what the hold of that sum in a sandbox is worth. -/
noncomputable def Try.pinned : Pinned := { name := "ytnicofjegkkppaa", sum := "17ea5ca56505a44923fad47de397ebd398cb4f301b06189d1264180364ff3add", checked := Try.checked }
namespace Rows
def none {H : Type} : Left H := { results := [], args := [] }

/-- 'drayagelaw01.MassCounts': WHATEVER THE INPUT: true; the input reads as it did. -/
def massCountsSpec : ChangeSpec := { name := "massCounts", fn := fun _ => fun
  | [d1, d2] => { results := [.lit (.bool true)], args := [d1, d2] }
  | _ => none }
def massCountsRow : OpenClaim := { program := "ytnicofjegkkppaa", sum := "17ea5ca56505a44923fad47de397ebd398cb4f301b06189d1264180364ff3add", func := "drayage/drayagelaw01.MassCounts", spec := "massCounts", unfollowed := true, recurses := true, apart := false }
def MassCountsSaid : Prop := massCountsRow.holds Try.pinned (OpenSpec.ofChange massCountsSpec)

/-- ITS FALSE NEIGHBOUR: 'it returns false'. Refute it at one input. -/
def massCountsWrong : ChangeSpec := { name := "massCounts", fn := fun _ => fun
  | [d1, d2] => { results := [.lit (.bool false)], args := [d1, d2] }
  | _ => none }
def MassCountsWrongFalsely : Prop := massCountsRow.holds Try.pinned (OpenSpec.ofChange massCountsWrong)

/-- 'drayagelaw01.MassTotals': WHATEVER THE INPUT: true; the input reads as it did. -/
def massTotalsSpec : ChangeSpec := { name := "massTotals", fn := fun _ => fun
  | [d] => { results := [.lit (.bool true)], args := [d] }
  | _ => none }
def massTotalsRow : OpenClaim := { program := "ytnicofjegkkppaa", sum := "17ea5ca56505a44923fad47de397ebd398cb4f301b06189d1264180364ff3add", func := "drayage/drayagelaw01.MassTotals", spec := "massTotals", unfollowed := true, recurses := true, apart := false }
def MassTotalsSaid : Prop := massTotalsRow.holds Try.pinned (OpenSpec.ofChange massTotalsSpec)

/-- ITS FALSE NEIGHBOUR: 'it returns false'. Refute it at one input. -/
def massTotalsWrong : ChangeSpec := { name := "massTotals", fn := fun _ => fun
  | [d] => { results := [.lit (.bool false)], args := [d] }
  | _ => none }
def MassTotalsWrongFalsely : Prop := massTotalsRow.holds Try.pinned (OpenSpec.ofChange massTotalsWrong)

/-- 'drayagelaw01.MassProducts': WHATEVER THE INPUT: true; the input reads as it did. -/
def massProductsSpec : ChangeSpec := { name := "massProducts", fn := fun _ => fun
  | [d1, d2] => { results := [.lit (.bool true)], args := [d1, d2] }
  | _ => none }
def massProductsRow : OpenClaim := { program := "ytnicofjegkkppaa", sum := "17ea5ca56505a44923fad47de397ebd398cb4f301b06189d1264180364ff3add", func := "drayage/drayagelaw01.MassProducts", spec := "massProducts", unfollowed := true, recurses := true, apart := false }
def MassProductsSaid : Prop := massProductsRow.holds Try.pinned (OpenSpec.ofChange massProductsSpec)

/-- ITS FALSE NEIGHBOUR: 'it returns false'. Refute it at one input. -/
def massProductsWrong : ChangeSpec := { name := "massProducts", fn := fun _ => fun
  | [d1, d2] => { results := [.lit (.bool false)], args := [d1, d2] }
  | _ => none }
def MassProductsWrongFalsely : Prop := massProductsRow.holds Try.pinned (OpenSpec.ofChange massProductsWrong)

/-- 'drayagelaw01.MassEnds': WHATEVER THE INPUT: true; the input reads as it did. -/
def massEndsSpec : ChangeSpec := { name := "massEnds", fn := fun _ => fun
  | [d] => { results := [.lit (.bool true)], args := [d] }
  | _ => none }
def massEndsRow : OpenClaim := { program := "ytnicofjegkkppaa", sum := "17ea5ca56505a44923fad47de397ebd398cb4f301b06189d1264180364ff3add", func := "drayage/drayagelaw01.MassEnds", spec := "massEnds", unfollowed := true, recurses := true, apart := false }
def MassEndsSaid : Prop := massEndsRow.holds Try.pinned (OpenSpec.ofChange massEndsSpec)

/-- ITS FALSE NEIGHBOUR: 'it returns false'. Refute it at one input. -/
def massEndsWrong : ChangeSpec := { name := "massEnds", fn := fun _ => fun
  | [d] => { results := [.lit (.bool false)], args := [d] }
  | _ => none }
def MassEndsWrongFalsely : Prop := massEndsRow.holds Try.pinned (OpenSpec.ofChange massEndsWrong)

/-- 'drayagelaw01.MassTurns': WHATEVER THE INPUT: true; the input reads as it did. -/
def massTurnsSpec : ChangeSpec := { name := "massTurns", fn := fun _ => fun
  | [d] => { results := [.lit (.bool true)], args := [d] }
  | _ => none }
def massTurnsRow : OpenClaim := { program := "ytnicofjegkkppaa", sum := "17ea5ca56505a44923fad47de397ebd398cb4f301b06189d1264180364ff3add", func := "drayage/drayagelaw01.MassTurns", spec := "massTurns", unfollowed := true, recurses := true, apart := false }
def MassTurnsSaid : Prop := massTurnsRow.holds Try.pinned (OpenSpec.ofChange massTurnsSpec)

/-- ITS FALSE NEIGHBOUR: 'it returns false'. Refute it at one input. -/
def massTurnsWrong : ChangeSpec := { name := "massTurns", fn := fun _ => fun
  | [d] => { results := [.lit (.bool false)], args := [d] }
  | _ => none }
def MassTurnsWrongFalsely : Prop := massTurnsRow.holds Try.pinned (OpenSpec.ofChange massTurnsWrong)

/-- 'drayagelaw01.MassPlans': WHATEVER THE INPUT: true; the input reads as it did. -/
def massPlansSpec : ChangeSpec := { name := "massPlans", fn := fun _ => fun
  | [d1, d2, d3] => { results := [.lit (.bool true)], args := [d1, d2, d3] }
  | _ => none }
def massPlansRow : OpenClaim := { program := "ytnicofjegkkppaa", sum := "17ea5ca56505a44923fad47de397ebd398cb4f301b06189d1264180364ff3add", func := "drayage/drayagelaw01.MassPlans", spec := "massPlans", unfollowed := true, recurses := true, apart := false }
def MassPlansSaid : Prop := massPlansRow.holds Try.pinned (OpenSpec.ofChange massPlansSpec)

/-- ITS FALSE NEIGHBOUR: 'it returns false'. Refute it at one input. -/
def massPlansWrong : ChangeSpec := { name := "massPlans", fn := fun _ => fun
  | [d1, d2, d3] => { results := [.lit (.bool false)], args := [d1, d2, d3] }
  | _ => none }
def MassPlansWrongFalsely : Prop := massPlansRow.holds Try.pinned (OpenSpec.ofChange massPlansWrong)

/-- 'drayagelaw01.MassSums': WHATEVER THE INPUT: true; the input reads as it did. -/
def massSumsSpec : ChangeSpec := { name := "massSums", fn := fun _ => fun
  | [d1, d2] => { results := [.lit (.bool true)], args := [d1, d2] }
  | _ => none }
def massSumsRow : OpenClaim := { program := "ytnicofjegkkppaa", sum := "17ea5ca56505a44923fad47de397ebd398cb4f301b06189d1264180364ff3add", func := "drayage/drayagelaw01.MassSums", spec := "massSums", unfollowed := true, recurses := true, apart := false }
def MassSumsSaid : Prop := massSumsRow.holds Try.pinned (OpenSpec.ofChange massSumsSpec)

/-- ITS FALSE NEIGHBOUR: 'it returns false'. Refute it at one input. -/
def massSumsWrong : ChangeSpec := { name := "massSums", fn := fun _ => fun
  | [d1, d2] => { results := [.lit (.bool false)], args := [d1, d2] }
  | _ => none }
def MassSumsWrongFalsely : Prop := massSumsRow.holds Try.pinned (OpenSpec.ofChange massSumsWrong)

/-- 'drayagelaw01.MassLinks': WHATEVER THE INPUT: true; the input reads as it did. -/
def massLinksSpec : ChangeSpec := { name := "massLinks", fn := fun _ => fun
  | [d] => { results := [.lit (.bool true)], args := [d] }
  | _ => none }
def massLinksRow : OpenClaim := { program := "ytnicofjegkkppaa", sum := "17ea5ca56505a44923fad47de397ebd398cb4f301b06189d1264180364ff3add", func := "drayage/drayagelaw01.MassLinks", spec := "massLinks", unfollowed := true, recurses := true, apart := false }
def MassLinksSaid : Prop := massLinksRow.holds Try.pinned (OpenSpec.ofChange massLinksSpec)

/-- ITS FALSE NEIGHBOUR: 'it returns false'. Refute it at one input. -/
def massLinksWrong : ChangeSpec := { name := "massLinks", fn := fun _ => fun
  | [d] => { results := [.lit (.bool false)], args := [d] }
  | _ => none }
def MassLinksWrongFalsely : Prop := massLinksRow.holds Try.pinned (OpenSpec.ofChange massLinksWrong)

/-- 'drayagelaw01.MassStays': WHATEVER THE INPUT: true; the input reads as it did. -/
def massStaysSpec : ChangeSpec := { name := "massStays", fn := fun _ => fun
  | [d1, d2, d3] => { results := [.lit (.bool true)], args := [d1, d2, d3] }
  | _ => none }
def massStaysRow : OpenClaim := { program := "ytnicofjegkkppaa", sum := "17ea5ca56505a44923fad47de397ebd398cb4f301b06189d1264180364ff3add", func := "drayage/drayagelaw01.MassStays", spec := "massStays", unfollowed := true, recurses := true, apart := false }
def MassStaysSaid : Prop := massStaysRow.holds Try.pinned (OpenSpec.ofChange massStaysSpec)

/-- ITS FALSE NEIGHBOUR: 'it returns false'. Refute it at one input. -/
def massStaysWrong : ChangeSpec := { name := "massStays", fn := fun _ => fun
  | [d1, d2, d3] => { results := [.lit (.bool false)], args := [d1, d2, d3] }
  | _ => none }
def MassStaysWrongFalsely : Prop := massStaysRow.holds Try.pinned (OpenSpec.ofChange massStaysWrong)

/-- 'drayagelaw01.MassGlues': WHATEVER THE INPUT: true; the input reads as it did. -/
def massGluesSpec : ChangeSpec := { name := "massGlues", fn := fun _ => fun
  | [d1, d2] => { results := [.lit (.bool true)], args := [d1, d2] }
  | _ => none }
def massGluesRow : OpenClaim := { program := "ytnicofjegkkppaa", sum := "17ea5ca56505a44923fad47de397ebd398cb4f301b06189d1264180364ff3add", func := "drayage/drayagelaw01.MassGlues", spec := "massGlues", unfollowed := true, recurses := true, apart := false }
def MassGluesSaid : Prop := massGluesRow.holds Try.pinned (OpenSpec.ofChange massGluesSpec)

/-- ITS FALSE NEIGHBOUR: 'it returns false'. Refute it at one input. -/
def massGluesWrong : ChangeSpec := { name := "massGlues", fn := fun _ => fun
  | [d1, d2] => { results := [.lit (.bool false)], args := [d1, d2] }
  | _ => none }
def MassGluesWrongFalsely : Prop := massGluesRow.holds Try.pinned (OpenSpec.ofChange massGluesWrong)

/-- 'drayagelaw01.MassPushes': WHATEVER THE INPUT: true; the input reads as it did. -/
def massPushesSpec : ChangeSpec := { name := "massPushes", fn := fun _ => fun
  | [d1, d2, d3] => { results := [.lit (.bool true)], args := [d1, d2, d3] }
  | _ => none }
def massPushesRow : OpenClaim := { program := "ytnicofjegkkppaa", sum := "17ea5ca56505a44923fad47de397ebd398cb4f301b06189d1264180364ff3add", func := "drayage/drayagelaw01.MassPushes", spec := "massPushes", unfollowed := true, recurses := true, apart := false }
def MassPushesSaid : Prop := massPushesRow.holds Try.pinned (OpenSpec.ofChange massPushesSpec)

/-- ITS FALSE NEIGHBOUR: 'it returns false'. Refute it at one input. -/
def massPushesWrong : ChangeSpec := { name := "massPushes", fn := fun _ => fun
  | [d1, d2, d3] => { results := [.lit (.bool false)], args := [d1, d2, d3] }
  | _ => none }
def MassPushesWrongFalsely : Prop := massPushesRow.holds Try.pinned (OpenSpec.ofChange massPushesWrong)

/-- 'drayagelaw01.MassCorners': WHATEVER THE INPUT: true; the input reads as it did. -/
def massCornersSpec : ChangeSpec := { name := "massCorners", fn := fun _ => fun
  | [d1, d2] => { results := [.lit (.bool true)], args := [d1, d2] }
  | _ => none }
def massCornersRow : OpenClaim := { program := "ytnicofjegkkppaa", sum := "17ea5ca56505a44923fad47de397ebd398cb4f301b06189d1264180364ff3add", func := "drayage/drayagelaw01.MassCorners", spec := "massCorners", unfollowed := true, recurses := true, apart := false }
def MassCornersSaid : Prop := massCornersRow.holds Try.pinned (OpenSpec.ofChange massCornersSpec)

/-- ITS FALSE NEIGHBOUR: 'it returns false'. Refute it at one input. -/
def massCornersWrong : ChangeSpec := { name := "massCorners", fn := fun _ => fun
  | [d1, d2] => { results := [.lit (.bool false)], args := [d1, d2] }
  | _ => none }
def MassCornersWrongFalsely : Prop := massCornersRow.holds Try.pinned (OpenSpec.ofChange massCornersWrong)

/-- 'drayagelaw01.MassForests': WHATEVER THE INPUT: true; the input reads as it did. -/
def massForestsSpec : ChangeSpec := { name := "massForests", fn := fun _ => fun
  | [d] => { results := [.lit (.bool true)], args := [d] }
  | _ => none }
def massForestsRow : OpenClaim := { program := "ytnicofjegkkppaa", sum := "17ea5ca56505a44923fad47de397ebd398cb4f301b06189d1264180364ff3add", func := "drayage/drayagelaw01.MassForests", spec := "massForests", unfollowed := true, recurses := true, apart := false }
def MassForestsSaid : Prop := massForestsRow.holds Try.pinned (OpenSpec.ofChange massForestsSpec)

/-- ITS FALSE NEIGHBOUR: 'it returns false'. Refute it at one input. -/
def massForestsWrong : ChangeSpec := { name := "massForests", fn := fun _ => fun
  | [d] => { results := [.lit (.bool false)], args := [d] }
  | _ => none }
def MassForestsWrongFalsely : Prop := massForestsRow.holds Try.pinned (OpenSpec.ofChange massForestsWrong)

/- THE SECOND FORM. 'bulk': how many values and letters a reading holds, each counted each time it is reached (what is shared counts as often as it is met; a slice's spare places count too). A statement '..UptoSaid' is the law's where the arguments, and the package variables that the reading takes, are together of bulk at most 1048576: NARROWER than '..Said'. Prove '..Said' where nothing that the law and all that it calls make is longer than what came in: it says more and counts as full. Else prove '..UptoSaid'. A law counts once. -/
mutual
def uptoBulk {H : Type} : DataW H → Nat
  | .lit (.string bytes) => bytes.length + 1
  | .lit _ => 1
  | .nil => 1
  | .ptr d => uptoBulk d + 1
  | .slice elems spare => uptoBulkAll elems + uptoBulkAll spare + 1
  | .agg parts => uptoBulkAll parts + 1
  | .iface _ d => uptoBulk d + 1
  | .map entries => uptoBulkEntries entries + 1
  | .held _ => 1
def uptoBulkAll {H : Type} : List (DataW H) → Nat
  | [] => 0
  | d :: r => uptoBulk d + uptoBulkAll r
def uptoBulkEntries {H : Type} : List (Lit × DataW H) → Nat
  | [] => 0
  | x :: r => uptoBulkEntry x + uptoBulkEntries r
def uptoBulkEntry {H : Type} : Lit × DataW H → Nat
  | (.string bytes, d) => bytes.length + uptoBulk d + 1
  | (_, d) => uptoBulk d + 1
 end
def uptoSmall : (H : Type) → List (DataW H) → Bool := fun _ ds => decide (uptoBulkAll ds ≤ 1048576)
def OpenSpec.upto (s : _root_.Go.ChangeSpec) : _root_.Go.OpenSpec := { _root_.Go.OpenSpec.ofChange s with cond := some uptoSmall }

/-- 'drayagelaw01.MassCounts', WHERE WHAT IT READS IS OF BULK AT MOST 1048576: true; the input reads as it did. -/
def massCountsUptoRow : OpenClaim := { program := "ytnicofjegkkppaa", sum := "17ea5ca56505a44923fad47de397ebd398cb4f301b06189d1264180364ff3add", func := "drayage/drayagelaw01.MassCounts", spec := "massCounts", unfollowed := true, recurses := true, apart := false, narrowed := true }
def MassCountsUptoSaid : Prop := massCountsUptoRow.holds Try.pinned (OpenSpec.upto massCountsSpec)

/-- 'drayagelaw01.MassTotals', WHERE WHAT IT READS IS OF BULK AT MOST 1048576: true; the input reads as it did. -/
def massTotalsUptoRow : OpenClaim := { program := "ytnicofjegkkppaa", sum := "17ea5ca56505a44923fad47de397ebd398cb4f301b06189d1264180364ff3add", func := "drayage/drayagelaw01.MassTotals", spec := "massTotals", unfollowed := true, recurses := true, apart := false, narrowed := true }
def MassTotalsUptoSaid : Prop := massTotalsUptoRow.holds Try.pinned (OpenSpec.upto massTotalsSpec)

/-- 'drayagelaw01.MassProducts', WHERE WHAT IT READS IS OF BULK AT MOST 1048576: true; the input reads as it did. -/
def massProductsUptoRow : OpenClaim := { program := "ytnicofjegkkppaa", sum := "17ea5ca56505a44923fad47de397ebd398cb4f301b06189d1264180364ff3add", func := "drayage/drayagelaw01.MassProducts", spec := "massProducts", unfollowed := true, recurses := true, apart := false, narrowed := true }
def MassProductsUptoSaid : Prop := massProductsUptoRow.holds Try.pinned (OpenSpec.upto massProductsSpec)

/-- 'drayagelaw01.MassEnds', WHERE WHAT IT READS IS OF BULK AT MOST 1048576: true; the input reads as it did. -/
def massEndsUptoRow : OpenClaim := { program := "ytnicofjegkkppaa", sum := "17ea5ca56505a44923fad47de397ebd398cb4f301b06189d1264180364ff3add", func := "drayage/drayagelaw01.MassEnds", spec := "massEnds", unfollowed := true, recurses := true, apart := false, narrowed := true }
def MassEndsUptoSaid : Prop := massEndsUptoRow.holds Try.pinned (OpenSpec.upto massEndsSpec)

/-- 'drayagelaw01.MassTurns', WHERE WHAT IT READS IS OF BULK AT MOST 1048576: true; the input reads as it did. -/
def massTurnsUptoRow : OpenClaim := { program := "ytnicofjegkkppaa", sum := "17ea5ca56505a44923fad47de397ebd398cb4f301b06189d1264180364ff3add", func := "drayage/drayagelaw01.MassTurns", spec := "massTurns", unfollowed := true, recurses := true, apart := false, narrowed := true }
def MassTurnsUptoSaid : Prop := massTurnsUptoRow.holds Try.pinned (OpenSpec.upto massTurnsSpec)

/-- 'drayagelaw01.MassPlans', WHERE WHAT IT READS IS OF BULK AT MOST 1048576: true; the input reads as it did. -/
def massPlansUptoRow : OpenClaim := { program := "ytnicofjegkkppaa", sum := "17ea5ca56505a44923fad47de397ebd398cb4f301b06189d1264180364ff3add", func := "drayage/drayagelaw01.MassPlans", spec := "massPlans", unfollowed := true, recurses := true, apart := false, narrowed := true }
def MassPlansUptoSaid : Prop := massPlansUptoRow.holds Try.pinned (OpenSpec.upto massPlansSpec)

/-- 'drayagelaw01.MassSums', WHERE WHAT IT READS IS OF BULK AT MOST 1048576: true; the input reads as it did. -/
def massSumsUptoRow : OpenClaim := { program := "ytnicofjegkkppaa", sum := "17ea5ca56505a44923fad47de397ebd398cb4f301b06189d1264180364ff3add", func := "drayage/drayagelaw01.MassSums", spec := "massSums", unfollowed := true, recurses := true, apart := false, narrowed := true }
def MassSumsUptoSaid : Prop := massSumsUptoRow.holds Try.pinned (OpenSpec.upto massSumsSpec)

/-- 'drayagelaw01.MassLinks', WHERE WHAT IT READS IS OF BULK AT MOST 1048576: true; the input reads as it did. -/
def massLinksUptoRow : OpenClaim := { program := "ytnicofjegkkppaa", sum := "17ea5ca56505a44923fad47de397ebd398cb4f301b06189d1264180364ff3add", func := "drayage/drayagelaw01.MassLinks", spec := "massLinks", unfollowed := true, recurses := true, apart := false, narrowed := true }
def MassLinksUptoSaid : Prop := massLinksUptoRow.holds Try.pinned (OpenSpec.upto massLinksSpec)

/-- 'drayagelaw01.MassStays', WHERE WHAT IT READS IS OF BULK AT MOST 1048576: true; the input reads as it did. -/
def massStaysUptoRow : OpenClaim := { program := "ytnicofjegkkppaa", sum := "17ea5ca56505a44923fad47de397ebd398cb4f301b06189d1264180364ff3add", func := "drayage/drayagelaw01.MassStays", spec := "massStays", unfollowed := true, recurses := true, apart := false, narrowed := true }
def MassStaysUptoSaid : Prop := massStaysUptoRow.holds Try.pinned (OpenSpec.upto massStaysSpec)

/-- 'drayagelaw01.MassGlues', WHERE WHAT IT READS IS OF BULK AT MOST 1048576: true; the input reads as it did. -/
def massGluesUptoRow : OpenClaim := { program := "ytnicofjegkkppaa", sum := "17ea5ca56505a44923fad47de397ebd398cb4f301b06189d1264180364ff3add", func := "drayage/drayagelaw01.MassGlues", spec := "massGlues", unfollowed := true, recurses := true, apart := false, narrowed := true }
def MassGluesUptoSaid : Prop := massGluesUptoRow.holds Try.pinned (OpenSpec.upto massGluesSpec)

/-- 'drayagelaw01.MassPushes', WHERE WHAT IT READS IS OF BULK AT MOST 1048576: true; the input reads as it did. -/
def massPushesUptoRow : OpenClaim := { program := "ytnicofjegkkppaa", sum := "17ea5ca56505a44923fad47de397ebd398cb4f301b06189d1264180364ff3add", func := "drayage/drayagelaw01.MassPushes", spec := "massPushes", unfollowed := true, recurses := true, apart := false, narrowed := true }
def MassPushesUptoSaid : Prop := massPushesUptoRow.holds Try.pinned (OpenSpec.upto massPushesSpec)

/-- 'drayagelaw01.MassCorners', WHERE WHAT IT READS IS OF BULK AT MOST 1048576: true; the input reads as it did. -/
def massCornersUptoRow : OpenClaim := { program := "ytnicofjegkkppaa", sum := "17ea5ca56505a44923fad47de397ebd398cb4f301b06189d1264180364ff3add", func := "drayage/drayagelaw01.MassCorners", spec := "massCorners", unfollowed := true, recurses := true, apart := false, narrowed := true }
def MassCornersUptoSaid : Prop := massCornersUptoRow.holds Try.pinned (OpenSpec.upto massCornersSpec)

/-- 'drayagelaw01.MassForests', WHERE WHAT IT READS IS OF BULK AT MOST 1048576: true; the input reads as it did. -/
def massForestsUptoRow : OpenClaim := { program := "ytnicofjegkkppaa", sum := "17ea5ca56505a44923fad47de397ebd398cb4f301b06189d1264180364ff3add", func := "drayage/drayagelaw01.MassForests", spec := "massForests", unfollowed := true, recurses := true, apart := false, narrowed := true }
def MassForestsUptoSaid : Prop := massForestsUptoRow.holds Try.pinned (OpenSpec.upto massForestsSpec)

end Rows
end Go.Proofs.Ytnicofjegkkppaa
