/-
  No cell of these rows narrows 'for every input' (looked for: loops, veiled, ifaces, maps, wideKeys, modest, calm, conditions, laid).
  DERIVED. THE GIVEN ROWS OF THIS SEAT. 13 by the template 'for every input the law returns true; each argument reads behind the call as it read before'; 0 by the template 'total and deterministic' (their statements: YtaldpinkkgdklaaTotals.lean).
  GIVEN WITH THE SEED: the statements are not yours to turn. If you find one false, say at which input.
  Laid BY PROGRAM, IN A SANDBOX (cutbox-rows.mjs): the forced cells as the released guide's own fill.sh prints them over the translation 547131e6dc096f0f… (all of the seat's roots in one cut). By AI agents, Wed Nov 11 2026. No macro, syntax, notation, axiom, sorry.
-/
import Derived.Test.YtaldpinkkgdklaaChecked
import GoSem.Claim
import GoSem.ClaimJoined
import GoSem.ClaimMapViews
import Derived.JoinedTies
import Derived.KernelRfl
namespace Go.Proofs.Ytaldpinkkgdklaa
/- THE CELL 'sum', in the pinned program and in every row, IS THE sha256 OF THE DUMP (.gsa) THAT YtaldpinkkgdklaaProg.lean LOADS. Nothing in Lean hashes anything: it is a label: what it is worth is what the hold of that sum in a sandbox is worth. -/
noncomputable def Try.pinned : Pinned := { name := "ytaldpinkkgdklaa", sum := "547131e6dc096f0fc9b4e31109f2f166150d7c3c1fe96e52ea74533e6f68bf34", checked := Try.checked }
namespace Rows
def none {H : Type} : Left H := { results := [], args := [] }

/-- 'drayagelaw04.PriceFits': WHATEVER THE INPUT: true; the input reads as it did. -/
def priceFitsSpec : ChangeSpec := { name := "priceFits", fn := fun _ => fun
  | [d1, d2] => { results := [.lit (.bool true)], args := [d1, d2] }
  | _ => none }
def priceFitsRow : OpenClaim := { program := "ytaldpinkkgdklaa", sum := "547131e6dc096f0fc9b4e31109f2f166150d7c3c1fe96e52ea74533e6f68bf34", func := "drayage/drayagelaw04.PriceFits", spec := "priceFits", unfollowed := true, recurses := true, apart := false }
def PriceFitsSaid : Prop := priceFitsRow.holds Try.pinned (OpenSpec.ofChange priceFitsSpec)

/-- ITS FALSE NEIGHBOUR: 'it returns false'. Refute it at one input. -/
def priceFitsWrong : ChangeSpec := { name := "priceFits", fn := fun _ => fun
  | [d1, d2] => { results := [.lit (.bool false)], args := [d1, d2] }
  | _ => none }
def PriceFitsWrongFalsely : Prop := priceFitsRow.holds Try.pinned (OpenSpec.ofChange priceFitsWrong)

/-- 'drayagelaw04.PriceTolls': WHATEVER THE INPUT: true; the input reads as it did. -/
def priceTollsSpec : ChangeSpec := { name := "priceTolls", fn := fun _ => fun
  | [d1, d2] => { results := [.lit (.bool true)], args := [d1, d2] }
  | _ => none }
def priceTollsRow : OpenClaim := { program := "ytaldpinkkgdklaa", sum := "547131e6dc096f0fc9b4e31109f2f166150d7c3c1fe96e52ea74533e6f68bf34", func := "drayage/drayagelaw04.PriceTolls", spec := "priceTolls", unfollowed := true, recurses := true, apart := false }
def PriceTollsSaid : Prop := priceTollsRow.holds Try.pinned (OpenSpec.ofChange priceTollsSpec)

/-- ITS FALSE NEIGHBOUR: 'it returns false'. Refute it at one input. -/
def priceTollsWrong : ChangeSpec := { name := "priceTolls", fn := fun _ => fun
  | [d1, d2] => { results := [.lit (.bool false)], args := [d1, d2] }
  | _ => none }
def PriceTollsWrongFalsely : Prop := priceTollsRow.holds Try.pinned (OpenSpec.ofChange priceTollsWrong)

/-- 'drayagelaw04.PriceLeast': WHATEVER THE INPUT: true; the input reads as it did. -/
def priceLeastSpec : ChangeSpec := { name := "priceLeast", fn := fun _ => fun
  | [d] => { results := [.lit (.bool true)], args := [d] }
  | _ => none }
def priceLeastRow : OpenClaim := { program := "ytaldpinkkgdklaa", sum := "547131e6dc096f0fc9b4e31109f2f166150d7c3c1fe96e52ea74533e6f68bf34", func := "drayage/drayagelaw04.PriceLeast", spec := "priceLeast", unfollowed := true, recurses := true, apart := false }
def PriceLeastSaid : Prop := priceLeastRow.holds Try.pinned (OpenSpec.ofChange priceLeastSpec)

/-- ITS FALSE NEIGHBOUR: 'it returns false'. Refute it at one input. -/
def priceLeastWrong : ChangeSpec := { name := "priceLeast", fn := fun _ => fun
  | [d] => { results := [.lit (.bool false)], args := [d] }
  | _ => none }
def PriceLeastWrongFalsely : Prop := priceLeastRow.holds Try.pinned (OpenSpec.ofChange priceLeastWrong)

/-- 'drayagelaw04.PriceAnswers': WHATEVER THE INPUT: true; the input reads as it did. -/
def priceAnswersSpec : ChangeSpec := { name := "priceAnswers", fn := fun _ => fun
  | [d1, d2] => { results := [.lit (.bool true)], args := [d1, d2] }
  | _ => none }
def priceAnswersRow : OpenClaim := { program := "ytaldpinkkgdklaa", sum := "547131e6dc096f0fc9b4e31109f2f166150d7c3c1fe96e52ea74533e6f68bf34", func := "drayage/drayagelaw04.PriceAnswers", spec := "priceAnswers", unfollowed := true, recurses := true, apart := false }
def PriceAnswersSaid : Prop := priceAnswersRow.holds Try.pinned (OpenSpec.ofChange priceAnswersSpec)

/-- ITS FALSE NEIGHBOUR: 'it returns false'. Refute it at one input. -/
def priceAnswersWrong : ChangeSpec := { name := "priceAnswers", fn := fun _ => fun
  | [d1, d2] => { results := [.lit (.bool false)], args := [d1, d2] }
  | _ => none }
def PriceAnswersWrongFalsely : Prop := priceAnswersRow.holds Try.pinned (OpenSpec.ofChange priceAnswersWrong)

/-- 'drayagelaw04.PriceWorths': WHATEVER THE INPUT: true; the input reads as it did. -/
def priceWorthsSpec : ChangeSpec := { name := "priceWorths", fn := fun _ => fun
  | [d1, d2] => { results := [.lit (.bool true)], args := [d1, d2] }
  | _ => none }
def priceWorthsRow : OpenClaim := { program := "ytaldpinkkgdklaa", sum := "547131e6dc096f0fc9b4e31109f2f166150d7c3c1fe96e52ea74533e6f68bf34", func := "drayage/drayagelaw04.PriceWorths", spec := "priceWorths", unfollowed := true, recurses := true, apart := false }
def PriceWorthsSaid : Prop := priceWorthsRow.holds Try.pinned (OpenSpec.ofChange priceWorthsSpec)

/-- ITS FALSE NEIGHBOUR: 'it returns false'. Refute it at one input. -/
def priceWorthsWrong : ChangeSpec := { name := "priceWorths", fn := fun _ => fun
  | [d1, d2] => { results := [.lit (.bool false)], args := [d1, d2] }
  | _ => none }
def PriceWorthsWrongFalsely : Prop := priceWorthsRow.holds Try.pinned (OpenSpec.ofChange priceWorthsWrong)

/-- 'drayagelaw04.PriceRounds': WHATEVER THE INPUT: true; the input reads as it did. -/
def priceRoundsSpec : ChangeSpec := { name := "priceRounds", fn := fun _ => fun
  | [d1, d2, d3] => { results := [.lit (.bool true)], args := [d1, d2, d3] }
  | _ => none }
def priceRoundsRow : OpenClaim := { program := "ytaldpinkkgdklaa", sum := "547131e6dc096f0fc9b4e31109f2f166150d7c3c1fe96e52ea74533e6f68bf34", func := "drayage/drayagelaw04.PriceRounds", spec := "priceRounds", unfollowed := true, recurses := true, apart := false }
def PriceRoundsSaid : Prop := priceRoundsRow.holds Try.pinned (OpenSpec.ofChange priceRoundsSpec)

/-- ITS FALSE NEIGHBOUR: 'it returns false'. Refute it at one input. -/
def priceRoundsWrong : ChangeSpec := { name := "priceRounds", fn := fun _ => fun
  | [d1, d2, d3] => { results := [.lit (.bool false)], args := [d1, d2, d3] }
  | _ => none }
def PriceRoundsWrongFalsely : Prop := priceRoundsRow.holds Try.pinned (OpenSpec.ofChange priceRoundsWrong)

/-- 'drayagelaw04.PriceCyclic': WHATEVER THE INPUT: true; the input reads as it did. -/
def priceCyclicSpec : ChangeSpec := { name := "priceCyclic", fn := fun _ => fun
  | [d1, d2] => { results := [.lit (.bool true)], args := [d1, d2] }
  | _ => none }
def priceCyclicRow : OpenClaim := { program := "ytaldpinkkgdklaa", sum := "547131e6dc096f0fc9b4e31109f2f166150d7c3c1fe96e52ea74533e6f68bf34", func := "drayage/drayagelaw04.PriceCyclic", spec := "priceCyclic", unfollowed := true, recurses := true, apart := false }
def PriceCyclicSaid : Prop := priceCyclicRow.holds Try.pinned (OpenSpec.ofChange priceCyclicSpec)

/-- ITS FALSE NEIGHBOUR: 'it returns false'. Refute it at one input. -/
def priceCyclicWrong : ChangeSpec := { name := "priceCyclic", fn := fun _ => fun
  | [d1, d2] => { results := [.lit (.bool false)], args := [d1, d2] }
  | _ => none }
def PriceCyclicWrongFalsely : Prop := priceCyclicRow.holds Try.pinned (OpenSpec.ofChange priceCyclicWrong)

/-- 'drayagelaw04.PriceNext': WHATEVER THE INPUT: true; the input reads as it did. -/
def priceNextSpec : ChangeSpec := { name := "priceNext", fn := fun _ => fun
  | [d1, d2] => { results := [.lit (.bool true)], args := [d1, d2] }
  | _ => none }
def priceNextRow : OpenClaim := { program := "ytaldpinkkgdklaa", sum := "547131e6dc096f0fc9b4e31109f2f166150d7c3c1fe96e52ea74533e6f68bf34", func := "drayage/drayagelaw04.PriceNext", spec := "priceNext", unfollowed := true, recurses := true, apart := false }
def PriceNextSaid : Prop := priceNextRow.holds Try.pinned (OpenSpec.ofChange priceNextSpec)

/-- ITS FALSE NEIGHBOUR: 'it returns false'. Refute it at one input. -/
def priceNextWrong : ChangeSpec := { name := "priceNext", fn := fun _ => fun
  | [d1, d2] => { results := [.lit (.bool false)], args := [d1, d2] }
  | _ => none }
def PriceNextWrongFalsely : Prop := priceNextRow.holds Try.pinned (OpenSpec.ofChange priceNextWrong)

/-- 'drayagelaw04.PriceUppers': WHATEVER THE INPUT: true; the input reads as it did. -/
def priceUppersSpec : ChangeSpec := { name := "priceUppers", fn := fun _ => fun
  | [d1, d2, d3] => { results := [.lit (.bool true)], args := [d1, d2, d3] }
  | _ => none }
def priceUppersRow : OpenClaim := { program := "ytaldpinkkgdklaa", sum := "547131e6dc096f0fc9b4e31109f2f166150d7c3c1fe96e52ea74533e6f68bf34", func := "drayage/drayagelaw04.PriceUppers", spec := "priceUppers", unfollowed := true, recurses := true, apart := false }
def PriceUppersSaid : Prop := priceUppersRow.holds Try.pinned (OpenSpec.ofChange priceUppersSpec)

/-- ITS FALSE NEIGHBOUR: 'it returns false'. Refute it at one input. -/
def priceUppersWrong : ChangeSpec := { name := "priceUppers", fn := fun _ => fun
  | [d1, d2, d3] => { results := [.lit (.bool false)], args := [d1, d2, d3] }
  | _ => none }
def PriceUppersWrongFalsely : Prop := priceUppersRow.holds Try.pinned (OpenSpec.ofChange priceUppersWrong)

/-- 'drayagelaw04.PriceBounds': WHATEVER THE INPUT: true; the input reads as it did. -/
def priceBoundsSpec : ChangeSpec := { name := "priceBounds", fn := fun _ => fun
  | [d1, d2, d3] => { results := [.lit (.bool true)], args := [d1, d2, d3] }
  | _ => none }
def priceBoundsRow : OpenClaim := { program := "ytaldpinkkgdklaa", sum := "547131e6dc096f0fc9b4e31109f2f166150d7c3c1fe96e52ea74533e6f68bf34", func := "drayage/drayagelaw04.PriceBounds", spec := "priceBounds", unfollowed := true, recurses := true, apart := false }
def PriceBoundsSaid : Prop := priceBoundsRow.holds Try.pinned (OpenSpec.ofChange priceBoundsSpec)

/-- ITS FALSE NEIGHBOUR: 'it returns false'. Refute it at one input. -/
def priceBoundsWrong : ChangeSpec := { name := "priceBounds", fn := fun _ => fun
  | [d1, d2, d3] => { results := [.lit (.bool false)], args := [d1, d2, d3] }
  | _ => none }
def PriceBoundsWrongFalsely : Prop := priceBoundsRow.holds Try.pinned (OpenSpec.ofChange priceBoundsWrong)

/-- 'drayagelaw04.PriceLinks': WHATEVER THE INPUT: true; the input reads as it did. -/
def priceLinksSpec : ChangeSpec := { name := "priceLinks", fn := fun _ => fun
  | [d1, d2] => { results := [.lit (.bool true)], args := [d1, d2] }
  | _ => none }
def priceLinksRow : OpenClaim := { program := "ytaldpinkkgdklaa", sum := "547131e6dc096f0fc9b4e31109f2f166150d7c3c1fe96e52ea74533e6f68bf34", func := "drayage/drayagelaw04.PriceLinks", spec := "priceLinks", unfollowed := true, recurses := true, apart := false }
def PriceLinksSaid : Prop := priceLinksRow.holds Try.pinned (OpenSpec.ofChange priceLinksSpec)

/-- ITS FALSE NEIGHBOUR: 'it returns false'. Refute it at one input. -/
def priceLinksWrong : ChangeSpec := { name := "priceLinks", fn := fun _ => fun
  | [d1, d2] => { results := [.lit (.bool false)], args := [d1, d2] }
  | _ => none }
def PriceLinksWrongFalsely : Prop := priceLinksRow.holds Try.pinned (OpenSpec.ofChange priceLinksWrong)

/-- 'drayagelaw04.PriceProves': WHATEVER THE INPUT: true; the input reads as it did. -/
def priceProvesSpec : ChangeSpec := { name := "priceProves", fn := fun _ => fun
  | [d1, d2, d3] => { results := [.lit (.bool true)], args := [d1, d2, d3] }
  | _ => none }
def priceProvesRow : OpenClaim := { program := "ytaldpinkkgdklaa", sum := "547131e6dc096f0fc9b4e31109f2f166150d7c3c1fe96e52ea74533e6f68bf34", func := "drayage/drayagelaw04.PriceProves", spec := "priceProves", unfollowed := true, recurses := true, apart := false }
def PriceProvesSaid : Prop := priceProvesRow.holds Try.pinned (OpenSpec.ofChange priceProvesSpec)

/-- ITS FALSE NEIGHBOUR: 'it returns false'. Refute it at one input. -/
def priceProvesWrong : ChangeSpec := { name := "priceProves", fn := fun _ => fun
  | [d1, d2, d3] => { results := [.lit (.bool false)], args := [d1, d2, d3] }
  | _ => none }
def PriceProvesWrongFalsely : Prop := priceProvesRow.holds Try.pinned (OpenSpec.ofChange priceProvesWrong)

/-- 'drayagelaw04.PriceOthers': WHATEVER THE INPUT: true; the input reads as it did. -/
def priceOthersSpec : ChangeSpec := { name := "priceOthers", fn := fun _ => fun
  | [d1, d2, d3] => { results := [.lit (.bool true)], args := [d1, d2, d3] }
  | _ => none }
def priceOthersRow : OpenClaim := { program := "ytaldpinkkgdklaa", sum := "547131e6dc096f0fc9b4e31109f2f166150d7c3c1fe96e52ea74533e6f68bf34", func := "drayage/drayagelaw04.PriceOthers", spec := "priceOthers", unfollowed := true, recurses := true, apart := false }
def PriceOthersSaid : Prop := priceOthersRow.holds Try.pinned (OpenSpec.ofChange priceOthersSpec)

/-- ITS FALSE NEIGHBOUR: 'it returns false'. Refute it at one input. -/
def priceOthersWrong : ChangeSpec := { name := "priceOthers", fn := fun _ => fun
  | [d1, d2, d3] => { results := [.lit (.bool false)], args := [d1, d2, d3] }
  | _ => none }
def PriceOthersWrongFalsely : Prop := priceOthersRow.holds Try.pinned (OpenSpec.ofChange priceOthersWrong)

/- THE SECOND FORM. 'bulk': how many values and letters a reading holds, each counted each time it is reached (what is shared counts as often as it is met; a slice's spare places count too). A statement '..UptoSaid' is the law's where the arguments, and the package variables that the reading takes, are together of bulk at most 1048576: NARROWER than '..Said'. Prove '..Said' where nothing that the law and all that it calls make is longer than what came in: it says more and counts as full. Else prove '..UptoSaid'. A law counts once. -/
mutual
def uptoBulk {H : Type} : DataW H → Nat
  | .lit (.string bytes) => bytes.length + 1
  | .lit _ => 1
  | .nil => 1
  | .ptr d => uptoBulk d + 1
  | .slice elems spare => uptoBulkAll elems + uptoBulkAll spare + 1
  | .agg parts => uptoBulkAll parts + 1
  | .iface _ d => uptoBulk d + 1
  | .map entries => uptoBulkEntries entries + 1
  | .held _ => 1
def uptoBulkAll {H : Type} : List (DataW H) → Nat
  | [] => 0
  | d :: r => uptoBulk d + uptoBulkAll r
def uptoBulkEntries {H : Type} : List (Lit × DataW H) → Nat
  | [] => 0
  | x :: r => uptoBulkEntry x + uptoBulkEntries r
def uptoBulkEntry {H : Type} : Lit × DataW H → Nat
  | (.string bytes, d) => bytes.length + uptoBulk d + 1
  | (_, d) => uptoBulk d + 1
 end
def uptoSmall : (H : Type) → List (DataW H) → Bool := fun _ ds => decide (uptoBulkAll ds ≤ 1048576)
def OpenSpec.upto (s : _root_.Go.ChangeSpec) : _root_.Go.OpenSpec := { _root_.Go.OpenSpec.ofChange s with cond := some uptoSmall }

/-- 'drayagelaw04.PriceFits', WHERE WHAT IT READS IS OF BULK AT MOST 1048576: true; the input reads as it did. -/
def priceFitsUptoRow : OpenClaim := { program := "ytaldpinkkgdklaa", sum := "547131e6dc096f0fc9b4e31109f2f166150d7c3c1fe96e52ea74533e6f68bf34", func := "drayage/drayagelaw04.PriceFits", spec := "priceFits", unfollowed := true, recurses := true, apart := false, narrowed := true }
def PriceFitsUptoSaid : Prop := priceFitsUptoRow.holds Try.pinned (OpenSpec.upto priceFitsSpec)

/-- 'drayagelaw04.PriceTolls', WHERE WHAT IT READS IS OF BULK AT MOST 1048576: true; the input reads as it did. -/
def priceTollsUptoRow : OpenClaim := { program := "ytaldpinkkgdklaa", sum := "547131e6dc096f0fc9b4e31109f2f166150d7c3c1fe96e52ea74533e6f68bf34", func := "drayage/drayagelaw04.PriceTolls", spec := "priceTolls", unfollowed := true, recurses := true, apart := false, narrowed := true }
def PriceTollsUptoSaid : Prop := priceTollsUptoRow.holds Try.pinned (OpenSpec.upto priceTollsSpec)

/-- 'drayagelaw04.PriceLeast', WHERE WHAT IT READS IS OF BULK AT MOST 1048576: true; the input reads as it did. -/
def priceLeastUptoRow : OpenClaim := { program := "ytaldpinkkgdklaa", sum := "547131e6dc096f0fc9b4e31109f2f166150d7c3c1fe96e52ea74533e6f68bf34", func := "drayage/drayagelaw04.PriceLeast", spec := "priceLeast", unfollowed := true, recurses := true, apart := false, narrowed := true }
def PriceLeastUptoSaid : Prop := priceLeastUptoRow.holds Try.pinned (OpenSpec.upto priceLeastSpec)

/-- 'drayagelaw04.PriceAnswers', WHERE WHAT IT READS IS OF BULK AT MOST 1048576: true; the input reads as it did. -/
def priceAnswersUptoRow : OpenClaim := { program := "ytaldpinkkgdklaa", sum := "547131e6dc096f0fc9b4e31109f2f166150d7c3c1fe96e52ea74533e6f68bf34", func := "drayage/drayagelaw04.PriceAnswers", spec := "priceAnswers", unfollowed := true, recurses := true, apart := false, narrowed := true }
def PriceAnswersUptoSaid : Prop := priceAnswersUptoRow.holds Try.pinned (OpenSpec.upto priceAnswersSpec)

/-- 'drayagelaw04.PriceWorths', WHERE WHAT IT READS IS OF BULK AT MOST 1048576: true; the input reads as it did. -/
def priceWorthsUptoRow : OpenClaim := { program := "ytaldpinkkgdklaa", sum := "547131e6dc096f0fc9b4e31109f2f166150d7c3c1fe96e52ea74533e6f68bf34", func := "drayage/drayagelaw04.PriceWorths", spec := "priceWorths", unfollowed := true, recurses := true, apart := false, narrowed := true }
def PriceWorthsUptoSaid : Prop := priceWorthsUptoRow.holds Try.pinned (OpenSpec.upto priceWorthsSpec)

/-- 'drayagelaw04.PriceRounds', WHERE WHAT IT READS IS OF BULK AT MOST 1048576: true; the input reads as it did. -/
def priceRoundsUptoRow : OpenClaim := { program := "ytaldpinkkgdklaa", sum := "547131e6dc096f0fc9b4e31109f2f166150d7c3c1fe96e52ea74533e6f68bf34", func := "drayage/drayagelaw04.PriceRounds", spec := "priceRounds", unfollowed := true, recurses := true, apart := false, narrowed := true }
def PriceRoundsUptoSaid : Prop := priceRoundsUptoRow.holds Try.pinned (OpenSpec.upto priceRoundsSpec)

/-- 'drayagelaw04.PriceCyclic', WHERE WHAT IT READS IS OF BULK AT MOST 1048576: true; the input reads as it did. -/
def priceCyclicUptoRow : OpenClaim := { program := "ytaldpinkkgdklaa", sum := "547131e6dc096f0fc9b4e31109f2f166150d7c3c1fe96e52ea74533e6f68bf34", func := "drayage/drayagelaw04.PriceCyclic", spec := "priceCyclic", unfollowed := true, recurses := true, apart := false, narrowed := true }
def PriceCyclicUptoSaid : Prop := priceCyclicUptoRow.holds Try.pinned (OpenSpec.upto priceCyclicSpec)

/-- 'drayagelaw04.PriceNext', WHERE WHAT IT READS IS OF BULK AT MOST 1048576: true; the input reads as it did. -/
def priceNextUptoRow : OpenClaim := { program := "ytaldpinkkgdklaa", sum := "547131e6dc096f0fc9b4e31109f2f166150d7c3c1fe96e52ea74533e6f68bf34", func := "drayage/drayagelaw04.PriceNext", spec := "priceNext", unfollowed := true, recurses := true, apart := false, narrowed := true }
def PriceNextUptoSaid : Prop := priceNextUptoRow.holds Try.pinned (OpenSpec.upto priceNextSpec)

/-- 'drayagelaw04.PriceUppers', WHERE WHAT IT READS IS OF BULK AT MOST 1048576: true; the input reads as it did. -/
def priceUppersUptoRow : OpenClaim := { program := "ytaldpinkkgdklaa", sum := "547131e6dc096f0fc9b4e31109f2f166150d7c3c1fe96e52ea74533e6f68bf34", func := "drayage/drayagelaw04.PriceUppers", spec := "priceUppers", unfollowed := true, recurses := true, apart := false, narrowed := true }
def PriceUppersUptoSaid : Prop := priceUppersUptoRow.holds Try.pinned (OpenSpec.upto priceUppersSpec)

/-- 'drayagelaw04.PriceBounds', WHERE WHAT IT READS IS OF BULK AT MOST 1048576: true; the input reads as it did. -/
def priceBoundsUptoRow : OpenClaim := { program := "ytaldpinkkgdklaa", sum := "547131e6dc096f0fc9b4e31109f2f166150d7c3c1fe96e52ea74533e6f68bf34", func := "drayage/drayagelaw04.PriceBounds", spec := "priceBounds", unfollowed := true, recurses := true, apart := false, narrowed := true }
def PriceBoundsUptoSaid : Prop := priceBoundsUptoRow.holds Try.pinned (OpenSpec.upto priceBoundsSpec)

/-- 'drayagelaw04.PriceLinks', WHERE WHAT IT READS IS OF BULK AT MOST 1048576: true; the input reads as it did. -/
def priceLinksUptoRow : OpenClaim := { program := "ytaldpinkkgdklaa", sum := "547131e6dc096f0fc9b4e31109f2f166150d7c3c1fe96e52ea74533e6f68bf34", func := "drayage/drayagelaw04.PriceLinks", spec := "priceLinks", unfollowed := true, recurses := true, apart := false, narrowed := true }
def PriceLinksUptoSaid : Prop := priceLinksUptoRow.holds Try.pinned (OpenSpec.upto priceLinksSpec)

/-- 'drayagelaw04.PriceProves', WHERE WHAT IT READS IS OF BULK AT MOST 1048576: true; the input reads as it did. -/
def priceProvesUptoRow : OpenClaim := { program := "ytaldpinkkgdklaa", sum := "547131e6dc096f0fc9b4e31109f2f166150d7c3c1fe96e52ea74533e6f68bf34", func := "drayage/drayagelaw04.PriceProves", spec := "priceProves", unfollowed := true, recurses := true, apart := false, narrowed := true }
def PriceProvesUptoSaid : Prop := priceProvesUptoRow.holds Try.pinned (OpenSpec.upto priceProvesSpec)

/-- 'drayagelaw04.PriceOthers', WHERE WHAT IT READS IS OF BULK AT MOST 1048576: true; the input reads as it did. -/
def priceOthersUptoRow : OpenClaim := { program := "ytaldpinkkgdklaa", sum := "547131e6dc096f0fc9b4e31109f2f166150d7c3c1fe96e52ea74533e6f68bf34", func := "drayage/drayagelaw04.PriceOthers", spec := "priceOthers", unfollowed := true, recurses := true, apart := false, narrowed := true }
def PriceOthersUptoSaid : Prop := priceOthersUptoRow.holds Try.pinned (OpenSpec.upto priceOthersSpec)

end Rows
end Go.Proofs.Ytaldpinkkgdklaa
