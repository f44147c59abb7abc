/-
  No cell of these rows narrows 'for every input' (looked for: loops, veiled, ifaces, maps, wideKeys, modest, calm, conditions, laid).
  DERIVED. THE GIVEN ROWS OF THIS SEAT. 12 by the template 'for every input the law returns true; each argument reads behind the call as it read before'; 0 by the template 'total and deterministic' (their statements: YthncebdmmfhhjaaTotals.lean).
  GIVEN WITH THE SEED: the statements are not yours to turn. If you find one false, say at which input.
  Laid BY PROGRAM, IN A SANDBOX (cutbox-rows.mjs): the forced cells as the released guide's own fill.sh prints them over the translation b788a20296f97363… (all of the seat's roots in one cut). By AI agents, Wed Nov 11 2026. No macro, syntax, notation, axiom, sorry.
-/
import Derived.Test.YthncebdmmfhhjaaChecked
import GoSem.Claim
import GoSem.ClaimJoined
import GoSem.ClaimMapViews
import Derived.JoinedTies
import Derived.KernelRfl
namespace Go.Proofs.Ythncebdmmfhhjaa
/- THE CELL 'sum', in the pinned program and in every row, IS THE sha256 OF THE DUMP (.gsa) THAT YthncebdmmfhhjaaProg.lean LOADS. Nothing in Lean hashes anything: it is a label: what it is worth is what the hold of that sum in a sandbox is worth. -/
noncomputable def Try.pinned : Pinned := { name := "ythncebdmmfhhjaa", sum := "b788a20296f9736386bf7505460aacb74daf8daa9f743cbb4105c28b35f083ac", checked := Try.checked }
namespace Rows
def none {H : Type} : Left H := { results := [], args := [] }

/-- 'drayagelaw08.LooseWorths': WHATEVER THE INPUT: true; the input reads as it did. -/
def looseWorthsSpec : ChangeSpec := { name := "looseWorths", fn := fun _ => fun
  | [d1, d2, d3] => { results := [.lit (.bool true)], args := [d1, d2, d3] }
  | _ => none }
def looseWorthsRow : OpenClaim := { program := "ythncebdmmfhhjaa", sum := "b788a20296f9736386bf7505460aacb74daf8daa9f743cbb4105c28b35f083ac", func := "drayage/drayagelaw08.LooseWorths", spec := "looseWorths", unfollowed := true, recurses := true, apart := false }
def LooseWorthsSaid : Prop := looseWorthsRow.holds Try.pinned (OpenSpec.ofChange looseWorthsSpec)

/-- ITS FALSE NEIGHBOUR: 'it returns false'. Refute it at one input. -/
def looseWorthsWrong : ChangeSpec := { name := "looseWorths", fn := fun _ => fun
  | [d1, d2, d3] => { results := [.lit (.bool false)], args := [d1, d2, d3] }
  | _ => none }
def LooseWorthsWrongFalsely : Prop := looseWorthsRow.holds Try.pinned (OpenSpec.ofChange looseWorthsWrong)

/-- 'drayagelaw08.LooseParts': WHATEVER THE INPUT: true; the input reads as it did. -/
def loosePartsSpec : ChangeSpec := { name := "looseParts", fn := fun _ => fun
  | [d] => { results := [.lit (.bool true)], args := [d] }
  | _ => none }
def loosePartsRow : OpenClaim := { program := "ythncebdmmfhhjaa", sum := "b788a20296f9736386bf7505460aacb74daf8daa9f743cbb4105c28b35f083ac", func := "drayage/drayagelaw08.LooseParts", spec := "looseParts", unfollowed := true, recurses := true, apart := false }
def LoosePartsSaid : Prop := loosePartsRow.holds Try.pinned (OpenSpec.ofChange loosePartsSpec)

/-- ITS FALSE NEIGHBOUR: 'it returns false'. Refute it at one input. -/
def loosePartsWrong : ChangeSpec := { name := "looseParts", fn := fun _ => fun
  | [d] => { results := [.lit (.bool false)], args := [d] }
  | _ => none }
def LoosePartsWrongFalsely : Prop := loosePartsRow.holds Try.pinned (OpenSpec.ofChange loosePartsWrong)

/-- 'drayagelaw08.LooseAmounts': WHATEVER THE INPUT: true; the input reads as it did. -/
def looseAmountsSpec : ChangeSpec := { name := "looseAmounts", fn := fun _ => fun
  | [d1, d2] => { results := [.lit (.bool true)], args := [d1, d2] }
  | _ => none }
def looseAmountsRow : OpenClaim := { program := "ythncebdmmfhhjaa", sum := "b788a20296f9736386bf7505460aacb74daf8daa9f743cbb4105c28b35f083ac", func := "drayage/drayagelaw08.LooseAmounts", spec := "looseAmounts", unfollowed := true, recurses := true, apart := false }
def LooseAmountsSaid : Prop := looseAmountsRow.holds Try.pinned (OpenSpec.ofChange looseAmountsSpec)

/-- ITS FALSE NEIGHBOUR: 'it returns false'. Refute it at one input. -/
def looseAmountsWrong : ChangeSpec := { name := "looseAmounts", fn := fun _ => fun
  | [d1, d2] => { results := [.lit (.bool false)], args := [d1, d2] }
  | _ => none }
def LooseAmountsWrongFalsely : Prop := looseAmountsRow.holds Try.pinned (OpenSpec.ofChange looseAmountsWrong)

/-- 'drayagelaw08.LooseThresholds': WHATEVER THE INPUT: true; the input reads as it did. -/
def looseThresholdsSpec : ChangeSpec := { name := "looseThresholds", fn := fun _ => fun
  | [d1, d2] => { results := [.lit (.bool true)], args := [d1, d2] }
  | _ => none }
def looseThresholdsRow : OpenClaim := { program := "ythncebdmmfhhjaa", sum := "b788a20296f9736386bf7505460aacb74daf8daa9f743cbb4105c28b35f083ac", func := "drayage/drayagelaw08.LooseThresholds", spec := "looseThresholds", unfollowed := true, recurses := true, apart := false }
def LooseThresholdsSaid : Prop := looseThresholdsRow.holds Try.pinned (OpenSpec.ofChange looseThresholdsSpec)

/-- ITS FALSE NEIGHBOUR: 'it returns false'. Refute it at one input. -/
def looseThresholdsWrong : ChangeSpec := { name := "looseThresholds", fn := fun _ => fun
  | [d1, d2] => { results := [.lit (.bool false)], args := [d1, d2] }
  | _ => none }
def LooseThresholdsWrongFalsely : Prop := looseThresholdsRow.holds Try.pinned (OpenSpec.ofChange looseThresholdsWrong)

/-- 'drayagelaw08.LoosePart': WHATEVER THE INPUT: true; the input reads as it did. -/
def loosePartSpec : ChangeSpec := { name := "loosePart", fn := fun _ => fun
  | [d1, d2] => { results := [.lit (.bool true)], args := [d1, d2] }
  | _ => none }
def loosePartRow : OpenClaim := { program := "ythncebdmmfhhjaa", sum := "b788a20296f9736386bf7505460aacb74daf8daa9f743cbb4105c28b35f083ac", func := "drayage/drayagelaw08.LoosePart", spec := "loosePart", unfollowed := true, recurses := true, apart := false }
def LoosePartSaid : Prop := loosePartRow.holds Try.pinned (OpenSpec.ofChange loosePartSpec)

/-- ITS FALSE NEIGHBOUR: 'it returns false'. Refute it at one input. -/
def loosePartWrong : ChangeSpec := { name := "loosePart", fn := fun _ => fun
  | [d1, d2] => { results := [.lit (.bool false)], args := [d1, d2] }
  | _ => none }
def LoosePartWrongFalsely : Prop := loosePartRow.holds Try.pinned (OpenSpec.ofChange loosePartWrong)

/-- 'drayagelaw08.LooseTurns': WHATEVER THE INPUT: true; the input reads as it did. -/
def looseTurnsSpec : ChangeSpec := { name := "looseTurns", fn := fun _ => fun
  | [d1, d2] => { results := [.lit (.bool true)], args := [d1, d2] }
  | _ => none }
def looseTurnsRow : OpenClaim := { program := "ythncebdmmfhhjaa", sum := "b788a20296f9736386bf7505460aacb74daf8daa9f743cbb4105c28b35f083ac", func := "drayage/drayagelaw08.LooseTurns", spec := "looseTurns", unfollowed := true, recurses := true, apart := false }
def LooseTurnsSaid : Prop := looseTurnsRow.holds Try.pinned (OpenSpec.ofChange looseTurnsSpec)

/-- ITS FALSE NEIGHBOUR: 'it returns false'. Refute it at one input. -/
def looseTurnsWrong : ChangeSpec := { name := "looseTurns", fn := fun _ => fun
  | [d1, d2] => { results := [.lit (.bool false)], args := [d1, d2] }
  | _ => none }
def LooseTurnsWrongFalsely : Prop := looseTurnsRow.holds Try.pinned (OpenSpec.ofChange looseTurnsWrong)

/-- 'drayagelaw08.LooseRises': WHATEVER THE INPUT: true; the input reads as it did. -/
def looseRisesSpec : ChangeSpec := { name := "looseRises", fn := fun _ => fun
  | [d1, d2, d3] => { results := [.lit (.bool true)], args := [d1, d2, d3] }
  | _ => none }
def looseRisesRow : OpenClaim := { program := "ythncebdmmfhhjaa", sum := "b788a20296f9736386bf7505460aacb74daf8daa9f743cbb4105c28b35f083ac", func := "drayage/drayagelaw08.LooseRises", spec := "looseRises", unfollowed := true, recurses := true, apart := false }
def LooseRisesSaid : Prop := looseRisesRow.holds Try.pinned (OpenSpec.ofChange looseRisesSpec)

/-- ITS FALSE NEIGHBOUR: 'it returns false'. Refute it at one input. -/
def looseRisesWrong : ChangeSpec := { name := "looseRises", fn := fun _ => fun
  | [d1, d2, d3] => { results := [.lit (.bool false)], args := [d1, d2, d3] }
  | _ => none }
def LooseRisesWrongFalsely : Prop := looseRisesRow.holds Try.pinned (OpenSpec.ofChange looseRisesWrong)

/-- 'drayagelaw08.LooseBounds': WHATEVER THE INPUT: true; the input reads as it did. -/
def looseBoundsSpec : ChangeSpec := { name := "looseBounds", fn := fun _ => fun
  | [d1, d2] => { results := [.lit (.bool true)], args := [d1, d2] }
  | _ => none }
def looseBoundsRow : OpenClaim := { program := "ythncebdmmfhhjaa", sum := "b788a20296f9736386bf7505460aacb74daf8daa9f743cbb4105c28b35f083ac", func := "drayage/drayagelaw08.LooseBounds", spec := "looseBounds", unfollowed := true, recurses := true, apart := false }
def LooseBoundsSaid : Prop := looseBoundsRow.holds Try.pinned (OpenSpec.ofChange looseBoundsSpec)

/-- ITS FALSE NEIGHBOUR: 'it returns false'. Refute it at one input. -/
def looseBoundsWrong : ChangeSpec := { name := "looseBounds", fn := fun _ => fun
  | [d1, d2] => { results := [.lit (.bool false)], args := [d1, d2] }
  | _ => none }
def LooseBoundsWrongFalsely : Prop := looseBoundsRow.holds Try.pinned (OpenSpec.ofChange looseBoundsWrong)

/-- 'drayagelaw08.LoosePlans': WHATEVER THE INPUT: true; the input reads as it did. -/
def loosePlansSpec : ChangeSpec := { name := "loosePlans", fn := fun _ => fun
  | [d1, d2, d3] => { results := [.lit (.bool true)], args := [d1, d2, d3] }
  | _ => none }
def loosePlansRow : OpenClaim := { program := "ythncebdmmfhhjaa", sum := "b788a20296f9736386bf7505460aacb74daf8daa9f743cbb4105c28b35f083ac", func := "drayage/drayagelaw08.LoosePlans", spec := "loosePlans", unfollowed := true, recurses := true, apart := false }
def LoosePlansSaid : Prop := loosePlansRow.holds Try.pinned (OpenSpec.ofChange loosePlansSpec)

/-- ITS FALSE NEIGHBOUR: 'it returns false'. Refute it at one input. -/
def loosePlansWrong : ChangeSpec := { name := "loosePlans", fn := fun _ => fun
  | [d1, d2, d3] => { results := [.lit (.bool false)], args := [d1, d2, d3] }
  | _ => none }
def LoosePlansWrongFalsely : Prop := loosePlansRow.holds Try.pinned (OpenSpec.ofChange loosePlansWrong)

/-- 'drayagelaw08.LooseFar': WHATEVER THE INPUT: true; the input reads as it did. -/
def looseFarSpec : ChangeSpec := { name := "looseFar", fn := fun _ => fun
  | [d1, d2] => { results := [.lit (.bool true)], args := [d1, d2] }
  | _ => none }
def looseFarRow : OpenClaim := { program := "ythncebdmmfhhjaa", sum := "b788a20296f9736386bf7505460aacb74daf8daa9f743cbb4105c28b35f083ac", func := "drayage/drayagelaw08.LooseFar", spec := "looseFar", unfollowed := true, recurses := true, apart := false }
def LooseFarSaid : Prop := looseFarRow.holds Try.pinned (OpenSpec.ofChange looseFarSpec)

/-- ITS FALSE NEIGHBOUR: 'it returns false'. Refute it at one input. -/
def looseFarWrong : ChangeSpec := { name := "looseFar", fn := fun _ => fun
  | [d1, d2] => { results := [.lit (.bool false)], args := [d1, d2] }
  | _ => none }
def LooseFarWrongFalsely : Prop := looseFarRow.holds Try.pinned (OpenSpec.ofChange looseFarWrong)

/-- 'drayagelaw08.LooseProves': WHATEVER THE INPUT: true; the input reads as it did. -/
def looseProvesSpec : ChangeSpec := { name := "looseProves", fn := fun _ => fun
  | [d1, d2] => { results := [.lit (.bool true)], args := [d1, d2] }
  | _ => none }
def looseProvesRow : OpenClaim := { program := "ythncebdmmfhhjaa", sum := "b788a20296f9736386bf7505460aacb74daf8daa9f743cbb4105c28b35f083ac", func := "drayage/drayagelaw08.LooseProves", spec := "looseProves", unfollowed := true, recurses := true, apart := false }
def LooseProvesSaid : Prop := looseProvesRow.holds Try.pinned (OpenSpec.ofChange looseProvesSpec)

/-- ITS FALSE NEIGHBOUR: 'it returns false'. Refute it at one input. -/
def looseProvesWrong : ChangeSpec := { name := "looseProves", fn := fun _ => fun
  | [d1, d2] => { results := [.lit (.bool false)], args := [d1, d2] }
  | _ => none }
def LooseProvesWrongFalsely : Prop := looseProvesRow.holds Try.pinned (OpenSpec.ofChange looseProvesWrong)

/-- 'drayagelaw08.LooseLeast': WHATEVER THE INPUT: true; the input reads as it did. -/
def looseLeastSpec : ChangeSpec := { name := "looseLeast", fn := fun _ => fun
  | [d1, d2] => { results := [.lit (.bool true)], args := [d1, d2] }
  | _ => none }
def looseLeastRow : OpenClaim := { program := "ythncebdmmfhhjaa", sum := "b788a20296f9736386bf7505460aacb74daf8daa9f743cbb4105c28b35f083ac", func := "drayage/drayagelaw08.LooseLeast", spec := "looseLeast", unfollowed := true, recurses := true, apart := false }
def LooseLeastSaid : Prop := looseLeastRow.holds Try.pinned (OpenSpec.ofChange looseLeastSpec)

/-- ITS FALSE NEIGHBOUR: 'it returns false'. Refute it at one input. -/
def looseLeastWrong : ChangeSpec := { name := "looseLeast", fn := fun _ => fun
  | [d1, d2] => { results := [.lit (.bool false)], args := [d1, d2] }
  | _ => none }
def LooseLeastWrongFalsely : Prop := looseLeastRow.holds Try.pinned (OpenSpec.ofChange looseLeastWrong)

/- THE SECOND FORM. 'bulk': how many values and letters a reading holds, each counted each time it is reached (what is shared counts as often as it is met; a slice's spare places count too). A statement '..UptoSaid' is the law's where the arguments, and the package variables that the reading takes, are together of bulk at most 1048576: NARROWER than '..Said'. Prove '..Said' where nothing that the law and all that it calls make is longer than what came in: it says more and counts as full. Else prove '..UptoSaid'. A law counts once. -/
mutual
def uptoBulk {H : Type} : DataW H → Nat
  | .lit (.string bytes) => bytes.length + 1
  | .lit _ => 1
  | .nil => 1
  | .ptr d => uptoBulk d + 1
  | .slice elems spare => uptoBulkAll elems + uptoBulkAll spare + 1
  | .agg parts => uptoBulkAll parts + 1
  | .iface _ d => uptoBulk d + 1
  | .map entries => uptoBulkEntries entries + 1
  | .held _ => 1
def uptoBulkAll {H : Type} : List (DataW H) → Nat
  | [] => 0
  | d :: r => uptoBulk d + uptoBulkAll r
def uptoBulkEntries {H : Type} : List (Lit × DataW H) → Nat
  | [] => 0
  | x :: r => uptoBulkEntry x + uptoBulkEntries r
def uptoBulkEntry {H : Type} : Lit × DataW H → Nat
  | (.string bytes, d) => bytes.length + uptoBulk d + 1
  | (_, d) => uptoBulk d + 1
 end
def uptoSmall : (H : Type) → List (DataW H) → Bool := fun _ ds => decide (uptoBulkAll ds ≤ 1048576)
def OpenSpec.upto (s : _root_.Go.ChangeSpec) : _root_.Go.OpenSpec := { _root_.Go.OpenSpec.ofChange s with cond := some uptoSmall }

/-- 'drayagelaw08.LooseWorths', WHERE WHAT IT READS IS OF BULK AT MOST 1048576: true; the input reads as it did. -/
def looseWorthsUptoRow : OpenClaim := { program := "ythncebdmmfhhjaa", sum := "b788a20296f9736386bf7505460aacb74daf8daa9f743cbb4105c28b35f083ac", func := "drayage/drayagelaw08.LooseWorths", spec := "looseWorths", unfollowed := true, recurses := true, apart := false, narrowed := true }
def LooseWorthsUptoSaid : Prop := looseWorthsUptoRow.holds Try.pinned (OpenSpec.upto looseWorthsSpec)

/-- 'drayagelaw08.LooseParts', WHERE WHAT IT READS IS OF BULK AT MOST 1048576: true; the input reads as it did. -/
def loosePartsUptoRow : OpenClaim := { program := "ythncebdmmfhhjaa", sum := "b788a20296f9736386bf7505460aacb74daf8daa9f743cbb4105c28b35f083ac", func := "drayage/drayagelaw08.LooseParts", spec := "looseParts", unfollowed := true, recurses := true, apart := false, narrowed := true }
def LoosePartsUptoSaid : Prop := loosePartsUptoRow.holds Try.pinned (OpenSpec.upto loosePartsSpec)

/-- 'drayagelaw08.LooseAmounts', WHERE WHAT IT READS IS OF BULK AT MOST 1048576: true; the input reads as it did. -/
def looseAmountsUptoRow : OpenClaim := { program := "ythncebdmmfhhjaa", sum := "b788a20296f9736386bf7505460aacb74daf8daa9f743cbb4105c28b35f083ac", func := "drayage/drayagelaw08.LooseAmounts", spec := "looseAmounts", unfollowed := true, recurses := true, apart := false, narrowed := true }
def LooseAmountsUptoSaid : Prop := looseAmountsUptoRow.holds Try.pinned (OpenSpec.upto looseAmountsSpec)

/-- 'drayagelaw08.LooseThresholds', WHERE WHAT IT READS IS OF BULK AT MOST 1048576: true; the input reads as it did. -/
def looseThresholdsUptoRow : OpenClaim := { program := "ythncebdmmfhhjaa", sum := "b788a20296f9736386bf7505460aacb74daf8daa9f743cbb4105c28b35f083ac", func := "drayage/drayagelaw08.LooseThresholds", spec := "looseThresholds", unfollowed := true, recurses := true, apart := false, narrowed := true }
def LooseThresholdsUptoSaid : Prop := looseThresholdsUptoRow.holds Try.pinned (OpenSpec.upto looseThresholdsSpec)

/-- 'drayagelaw08.LoosePart', WHERE WHAT IT READS IS OF BULK AT MOST 1048576: true; the input reads as it did. -/
def loosePartUptoRow : OpenClaim := { program := "ythncebdmmfhhjaa", sum := "b788a20296f9736386bf7505460aacb74daf8daa9f743cbb4105c28b35f083ac", func := "drayage/drayagelaw08.LoosePart", spec := "loosePart", unfollowed := true, recurses := true, apart := false, narrowed := true }
def LoosePartUptoSaid : Prop := loosePartUptoRow.holds Try.pinned (OpenSpec.upto loosePartSpec)

/-- 'drayagelaw08.LooseTurns', WHERE WHAT IT READS IS OF BULK AT MOST 1048576: true; the input reads as it did. -/
def looseTurnsUptoRow : OpenClaim := { program := "ythncebdmmfhhjaa", sum := "b788a20296f9736386bf7505460aacb74daf8daa9f743cbb4105c28b35f083ac", func := "drayage/drayagelaw08.LooseTurns", spec := "looseTurns", unfollowed := true, recurses := true, apart := false, narrowed := true }
def LooseTurnsUptoSaid : Prop := looseTurnsUptoRow.holds Try.pinned (OpenSpec.upto looseTurnsSpec)

/-- 'drayagelaw08.LooseRises', WHERE WHAT IT READS IS OF BULK AT MOST 1048576: true; the input reads as it did. -/
def looseRisesUptoRow : OpenClaim := { program := "ythncebdmmfhhjaa", sum := "b788a20296f9736386bf7505460aacb74daf8daa9f743cbb4105c28b35f083ac", func := "drayage/drayagelaw08.LooseRises", spec := "looseRises", unfollowed := true, recurses := true, apart := false, narrowed := true }
def LooseRisesUptoSaid : Prop := looseRisesUptoRow.holds Try.pinned (OpenSpec.upto looseRisesSpec)

/-- 'drayagelaw08.LooseBounds', WHERE WHAT IT READS IS OF BULK AT MOST 1048576: true; the input reads as it did. -/
def looseBoundsUptoRow : OpenClaim := { program := "ythncebdmmfhhjaa", sum := "b788a20296f9736386bf7505460aacb74daf8daa9f743cbb4105c28b35f083ac", func := "drayage/drayagelaw08.LooseBounds", spec := "looseBounds", unfollowed := true, recurses := true, apart := false, narrowed := true }
def LooseBoundsUptoSaid : Prop := looseBoundsUptoRow.holds Try.pinned (OpenSpec.upto looseBoundsSpec)

/-- 'drayagelaw08.LoosePlans', WHERE WHAT IT READS IS OF BULK AT MOST 1048576: true; the input reads as it did. -/
def loosePlansUptoRow : OpenClaim := { program := "ythncebdmmfhhjaa", sum := "b788a20296f9736386bf7505460aacb74daf8daa9f743cbb4105c28b35f083ac", func := "drayage/drayagelaw08.LoosePlans", spec := "loosePlans", unfollowed := true, recurses := true, apart := false, narrowed := true }
def LoosePlansUptoSaid : Prop := loosePlansUptoRow.holds Try.pinned (OpenSpec.upto loosePlansSpec)

/-- 'drayagelaw08.LooseFar', WHERE WHAT IT READS IS OF BULK AT MOST 1048576: true; the input reads as it did. -/
def looseFarUptoRow : OpenClaim := { program := "ythncebdmmfhhjaa", sum := "b788a20296f9736386bf7505460aacb74daf8daa9f743cbb4105c28b35f083ac", func := "drayage/drayagelaw08.LooseFar", spec := "looseFar", unfollowed := true, recurses := true, apart := false, narrowed := true }
def LooseFarUptoSaid : Prop := looseFarUptoRow.holds Try.pinned (OpenSpec.upto looseFarSpec)

/-- 'drayagelaw08.LooseProves', WHERE WHAT IT READS IS OF BULK AT MOST 1048576: true; the input reads as it did. -/
def looseProvesUptoRow : OpenClaim := { program := "ythncebdmmfhhjaa", sum := "b788a20296f9736386bf7505460aacb74daf8daa9f743cbb4105c28b35f083ac", func := "drayage/drayagelaw08.LooseProves", spec := "looseProves", unfollowed := true, recurses := true, apart := false, narrowed := true }
def LooseProvesUptoSaid : Prop := looseProvesUptoRow.holds Try.pinned (OpenSpec.upto looseProvesSpec)

/-- 'drayagelaw08.LooseLeast', WHERE WHAT IT READS IS OF BULK AT MOST 1048576: true; the input reads as it did. -/
def looseLeastUptoRow : OpenClaim := { program := "ythncebdmmfhhjaa", sum := "b788a20296f9736386bf7505460aacb74daf8daa9f743cbb4105c28b35f083ac", func := "drayage/drayagelaw08.LooseLeast", spec := "looseLeast", unfollowed := true, recurses := true, apart := false, narrowed := true }
def LooseLeastUptoSaid : Prop := looseLeastUptoRow.holds Try.pinned (OpenSpec.upto looseLeastSpec)

end Rows
end Go.Proofs.Ythncebdmmfhhjaa
