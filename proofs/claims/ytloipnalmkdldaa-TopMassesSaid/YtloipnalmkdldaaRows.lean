/-
  No cell of these rows narrows 'for every input' (looked for: loops, veiled, ifaces, maps, wideKeys, modest, calm, conditions, laid).
  DERIVED. THE GIVEN ROWS OF THIS SEAT. 4 by the template 'for every input the law returns true; each argument reads behind the call as it read before'; 0 by the template 'total and deterministic' (their statements: YtloipnalmkdldaaTotals.lean).
  GIVEN WITH THE SEED: the statements are not yours to turn. If you find one false, say at which input.
  Laid BY PROGRAM, IN A SANDBOX (cutbox-rows.mjs): the forced cells as the released guide's own fill.sh prints them over the translation abd8a6daa7ee34a6… (all of the seat's roots in one cut). By AI agents, Wed Nov 11 2026. No macro, syntax, notation, axiom, sorry.
-/
import Derived.Test.YtloipnalmkdldaaChecked
import GoSem.Claim
import GoSem.ClaimJoined
import GoSem.ClaimMapViews
import Derived.JoinedTies
import Derived.KernelRfl
namespace Go.Proofs.Ytloipnalmkdldaa
/- THE CELL 'sum', in the pinned program and in every row, IS THE sha256 OF THE DUMP (.gsa) THAT YtloipnalmkdldaaProg.lean LOADS. Nothing in Lean hashes anything: it is a label: what it is worth is what the hold of that sum in a sandbox is worth. -/
noncomputable def Try.pinned : Pinned := { name := "ytloipnalmkdldaa", sum := "abd8a6daa7ee34a6ef19bbf1f395c19dc2554d0ca80f6a5ad21d48161cdc74e6", checked := Try.checked }
namespace Rows
def none {H : Type} : Left H := { results := [], args := [] }

/-- 'drayagelaw01.MassLinks': WHATEVER THE INPUT: true; the input reads as it did. -/
def massLinksSpec : ChangeSpec := { name := "massLinks", fn := fun _ => fun
  | [d] => { results := [.lit (.bool true)], args := [d] }
  | _ => none }
def massLinksRow : OpenClaim := { program := "ytloipnalmkdldaa", sum := "abd8a6daa7ee34a6ef19bbf1f395c19dc2554d0ca80f6a5ad21d48161cdc74e6", func := "drayage/drayagelaw01.MassLinks", spec := "massLinks", unfollowed := true, recurses := true, apart := false }
def MassLinksSaid : Prop := massLinksRow.holds Try.pinned (OpenSpec.ofChange massLinksSpec)

/-- ITS FALSE NEIGHBOUR: 'it returns false'. Refute it at one input. -/
def massLinksWrong : ChangeSpec := { name := "massLinks", fn := fun _ => fun
  | [d] => { results := [.lit (.bool false)], args := [d] }
  | _ => none }
def MassLinksWrongFalsely : Prop := massLinksRow.holds Try.pinned (OpenSpec.ofChange massLinksWrong)

/-- 'drayagelaw01.MassCorners': WHATEVER THE INPUT: true; the input reads as it did. -/
def massCornersSpec : ChangeSpec := { name := "massCorners", fn := fun _ => fun
  | [d1, d2] => { results := [.lit (.bool true)], args := [d1, d2] }
  | _ => none }
def massCornersRow : OpenClaim := { program := "ytloipnalmkdldaa", sum := "abd8a6daa7ee34a6ef19bbf1f395c19dc2554d0ca80f6a5ad21d48161cdc74e6", func := "drayage/drayagelaw01.MassCorners", spec := "massCorners", unfollowed := true, recurses := true, apart := false }
def MassCornersSaid : Prop := massCornersRow.holds Try.pinned (OpenSpec.ofChange massCornersSpec)

/-- ITS FALSE NEIGHBOUR: 'it returns false'. Refute it at one input. -/
def massCornersWrong : ChangeSpec := { name := "massCorners", fn := fun _ => fun
  | [d1, d2] => { results := [.lit (.bool false)], args := [d1, d2] }
  | _ => none }
def MassCornersWrongFalsely : Prop := massCornersRow.holds Try.pinned (OpenSpec.ofChange massCornersWrong)

/-- 'drayagelaw01.MassForests': WHATEVER THE INPUT: true; the input reads as it did. -/
def massForestsSpec : ChangeSpec := { name := "massForests", fn := fun _ => fun
  | [d] => { results := [.lit (.bool true)], args := [d] }
  | _ => none }
def massForestsRow : OpenClaim := { program := "ytloipnalmkdldaa", sum := "abd8a6daa7ee34a6ef19bbf1f395c19dc2554d0ca80f6a5ad21d48161cdc74e6", func := "drayage/drayagelaw01.MassForests", spec := "massForests", unfollowed := true, recurses := true, apart := false }
def MassForestsSaid : Prop := massForestsRow.holds Try.pinned (OpenSpec.ofChange massForestsSpec)

/-- ITS FALSE NEIGHBOUR: 'it returns false'. Refute it at one input. -/
def massForestsWrong : ChangeSpec := { name := "massForests", fn := fun _ => fun
  | [d] => { results := [.lit (.bool false)], args := [d] }
  | _ => none }
def MassForestsWrongFalsely : Prop := massForestsRow.holds Try.pinned (OpenSpec.ofChange massForestsWrong)

/-- 'drayagetop.TopMasses': WHATEVER THE INPUT: true; the input reads as it did. -/
def topMassesSpec : ChangeSpec := { name := "topMasses", fn := fun _ => fun
  | [d1, d2] => { results := [.lit (.bool true)], args := [d1, d2] }
  | _ => none }
def topMassesRow : OpenClaim := { program := "ytloipnalmkdldaa", sum := "abd8a6daa7ee34a6ef19bbf1f395c19dc2554d0ca80f6a5ad21d48161cdc74e6", func := "drayage/drayagetop.TopMasses", spec := "topMasses", unfollowed := true, recurses := true, apart := false }
def TopMassesSaid : Prop := topMassesRow.holds Try.pinned (OpenSpec.ofChange topMassesSpec)

/-- ITS FALSE NEIGHBOUR: 'it returns false'. Refute it at one input. -/
def topMassesWrong : ChangeSpec := { name := "topMasses", fn := fun _ => fun
  | [d1, d2] => { results := [.lit (.bool false)], args := [d1, d2] }
  | _ => none }
def TopMassesWrongFalsely : Prop := topMassesRow.holds Try.pinned (OpenSpec.ofChange topMassesWrong)

/- THE SECOND FORM. 'bulk': how many values and letters a reading holds, each counted each time it is reached (what is shared counts as often as it is met; a slice's spare places count too). A statement '..UptoSaid' is the law's where the arguments, and the package variables that the reading takes, are together of bulk at most 1048576: NARROWER than '..Said'. Prove '..Said' where nothing that the law and all that it calls make is longer than what came in: it says more and counts as full. Else prove '..UptoSaid'. A law counts once. -/
mutual
def uptoBulk {H : Type} : DataW H → Nat
  | .lit (.string bytes) => bytes.length + 1
  | .lit _ => 1
  | .nil => 1
  | .ptr d => uptoBulk d + 1
  | .slice elems spare => uptoBulkAll elems + uptoBulkAll spare + 1
  | .agg parts => uptoBulkAll parts + 1
  | .iface _ d => uptoBulk d + 1
  | .map entries => uptoBulkEntries entries + 1
  | .held _ => 1
def uptoBulkAll {H : Type} : List (DataW H) → Nat
  | [] => 0
  | d :: r => uptoBulk d + uptoBulkAll r
def uptoBulkEntries {H : Type} : List (Lit × DataW H) → Nat
  | [] => 0
  | x :: r => uptoBulkEntry x + uptoBulkEntries r
def uptoBulkEntry {H : Type} : Lit × DataW H → Nat
  | (.string bytes, d) => bytes.length + uptoBulk d + 1
  | (_, d) => uptoBulk d + 1
 end
def uptoSmall : (H : Type) → List (DataW H) → Bool := fun _ ds => decide (uptoBulkAll ds ≤ 1048576)
def OpenSpec.upto (s : _root_.Go.ChangeSpec) : _root_.Go.OpenSpec := { _root_.Go.OpenSpec.ofChange s with cond := some uptoSmall }

/-- 'drayagelaw01.MassLinks', WHERE WHAT IT READS IS OF BULK AT MOST 1048576: true; the input reads as it did. -/
def massLinksUptoRow : OpenClaim := { program := "ytloipnalmkdldaa", sum := "abd8a6daa7ee34a6ef19bbf1f395c19dc2554d0ca80f6a5ad21d48161cdc74e6", func := "drayage/drayagelaw01.MassLinks", spec := "massLinks", unfollowed := true, recurses := true, apart := false, narrowed := true }
def MassLinksUptoSaid : Prop := massLinksUptoRow.holds Try.pinned (OpenSpec.upto massLinksSpec)

/-- 'drayagelaw01.MassCorners', WHERE WHAT IT READS IS OF BULK AT MOST 1048576: true; the input reads as it did. -/
def massCornersUptoRow : OpenClaim := { program := "ytloipnalmkdldaa", sum := "abd8a6daa7ee34a6ef19bbf1f395c19dc2554d0ca80f6a5ad21d48161cdc74e6", func := "drayage/drayagelaw01.MassCorners", spec := "massCorners", unfollowed := true, recurses := true, apart := false, narrowed := true }
def MassCornersUptoSaid : Prop := massCornersUptoRow.holds Try.pinned (OpenSpec.upto massCornersSpec)

/-- 'drayagelaw01.MassForests', WHERE WHAT IT READS IS OF BULK AT MOST 1048576: true; the input reads as it did. -/
def massForestsUptoRow : OpenClaim := { program := "ytloipnalmkdldaa", sum := "abd8a6daa7ee34a6ef19bbf1f395c19dc2554d0ca80f6a5ad21d48161cdc74e6", func := "drayage/drayagelaw01.MassForests", spec := "massForests", unfollowed := true, recurses := true, apart := false, narrowed := true }
def MassForestsUptoSaid : Prop := massForestsUptoRow.holds Try.pinned (OpenSpec.upto massForestsSpec)

/-- 'drayagetop.TopMasses', WHERE WHAT IT READS IS OF BULK AT MOST 1048576: true; the input reads as it did. -/
def topMassesUptoRow : OpenClaim := { program := "ytloipnalmkdldaa", sum := "abd8a6daa7ee34a6ef19bbf1f395c19dc2554d0ca80f6a5ad21d48161cdc74e6", func := "drayage/drayagetop.TopMasses", spec := "topMasses", unfollowed := true, recurses := true, apart := false, narrowed := true }
def TopMassesUptoSaid : Prop := topMassesUptoRow.holds Try.pinned (OpenSpec.upto topMassesSpec)

end Rows
end Go.Proofs.Ytloipnalmkdldaa
