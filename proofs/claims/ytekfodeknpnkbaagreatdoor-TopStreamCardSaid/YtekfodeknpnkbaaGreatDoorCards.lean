/-
  DERIVED. GIVEN WITH THE SEED: THE CARDS: each row of YtekfodeknpnkbaaGreatDoorRows.lean that lists a variable, with what it lists TIED to the program's text (the seventh form; the later family's looks); each row that meets fmt, with fmt's text TOLD by the authors' own Lean function (tested against real Go, not proved from fmt's source: count such statements apart). THE CARD IS WHAT COUNTS. Prove the row's statement (the work); the ties are given (YtekfodeknpnkbaaGreatDoorTie.lean); close each card by the builder's one call (the guide's Derived/Test/ToyasCard.lean, 'card_holds'). Laid BY PROGRAM, IN A SANDBOX (cutbox-door.mjs). By AI agents, Wed Nov 11 2026. No macro, syntax, notation, axiom, sorry.
-/
import Derived.Test.YtekfodeknpnkbaaGreatDoorRows
import GoSem.ClaimSeven
namespace Go.Proofs.YtekfodeknpnkbaaGreatDoor
namespace Rows

/-- THE TIED CARD OF 'drayagelaw09.HouseOrders'. -/
def houseOrdersCard : Claim7 := { stood := { row := houseOrdersRow, standIns := [], harness := (true, "38b002aaa0cc42011a9012a558afe0040d4330837fa69f6fc47ea4834dd62502"), looks := true }, kinds := [], alts := [], laidByText := true, laidKinds := [.data, .data, .data, .data, .handle, .sentinel, .sentinel, .pinned], laidTests := true, laidLooks := .later }
def HouseOrdersCardSaid : Prop := Claim7.holds Tryz.pinned (.plain (OpenSpec.ofChange houseOrdersSpec)) houseOrdersCard

/-- THE TIED CARD OF 'drayagelaw09.HouseRefuses'. -/
def houseRefusesCard : Claim7 := { stood := { row := houseRefusesRow, standIns := [], harness := (true, "38b002aaa0cc42011a9012a558afe0040d4330837fa69f6fc47ea4834dd62502"), looks := true }, kinds := [], alts := [], laidByText := true, laidKinds := [.data, .data, .data, .data, .handle, .sentinel, .sentinel, .pinned], laidTests := true, laidLooks := .later }
def HouseRefusesCardSaid : Prop := Claim7.holds Tryz.pinned (.plain (OpenSpec.ofChange houseRefusesSpec)) houseRefusesCard

/-- THE TIED CARD OF 'drayagelaw09.HouseReplays'. -/
def houseReplaysCard : Claim7 := { stood := { row := houseReplaysRow, standIns := [], harness := (true, "38b002aaa0cc42011a9012a558afe0040d4330837fa69f6fc47ea4834dd62502"), looks := true }, kinds := [], alts := [], laidByText := true, laidKinds := [.data, .data, .data, .data, .handle, .sentinel, .sentinel, .pinned], laidTests := true, laidLooks := .later }
def HouseReplaysCardSaid : Prop := Claim7.holds Tryz.pinned (.plain (OpenSpec.ofChange houseReplaysSpec)) houseReplaysCard

/-- THE TIED CARD OF 'drayagelaw09.HouseSolves'. -/
def houseSolvesCard : Claim7 := { stood := { row := houseSolvesRow, standIns := [], harness := (true, "38b002aaa0cc42011a9012a558afe0040d4330837fa69f6fc47ea4834dd62502"), looks := true }, kinds := [], alts := [], laidByText := true, laidKinds := [.data, .data, .data, .data, .handle, .sentinel, .sentinel, .pinned], laidTests := true, laidLooks := .later }
def HouseSolvesCardSaid : Prop := Claim7.holds Tryz.pinned (.plain (OpenSpec.ofChange houseSolvesSpec)) houseSolvesCard

/-- THE TIED CARD OF 'drayagelaw09.HouseBegins'. -/
def houseBeginsCard : Claim7 := { stood := { row := houseBeginsRow, standIns := [], harness := (true, "38b002aaa0cc42011a9012a558afe0040d4330837fa69f6fc47ea4834dd62502"), looks := true }, kinds := [], alts := [], laidByText := true, laidKinds := [.data, .data, .data, .data, .handle, .sentinel, .sentinel, .pinned], laidTests := true, laidLooks := .later }
def HouseBeginsCardSaid : Prop := Claim7.holds Tryz.pinned (.plain (OpenSpec.ofChange houseBeginsSpec)) houseBeginsCard

/-- THE TIED CARD OF 'drayagelaw09.HouseJudges'. -/
def houseJudgesCard : Claim7 := { stood := { row := houseJudgesRow, standIns := [], harness := (true, "38b002aaa0cc42011a9012a558afe0040d4330837fa69f6fc47ea4834dd62502"), looks := true }, kinds := [], alts := [], laidByText := true, laidKinds := [.data, .data, .data, .data, .handle, .sentinel, .sentinel, .pinned], laidTests := true, laidLooks := .later }
def HouseJudgesCardSaid : Prop := Claim7.holds Tryz.pinned (.plain (OpenSpec.ofChange houseJudgesSpec)) houseJudgesCard

/-- THE TIED CARD OF 'drayagelaw09.HouseAudits'. -/
def houseAuditsCard : Claim7 := { stood := { row := houseAuditsRow, standIns := [], harness := (true, "38b002aaa0cc42011a9012a558afe0040d4330837fa69f6fc47ea4834dd62502"), looks := true }, kinds := [], alts := [], laidByText := true, laidKinds := [.data, .data, .data, .data, .handle, .sentinel, .sentinel, .pinned], laidTests := true, laidLooks := .later }
def HouseAuditsCardSaid : Prop := Claim7.holds Tryz.pinned (.plain (OpenSpec.ofChange houseAuditsSpec)) houseAuditsCard

/-- THE TIED CARD OF 'drayagelaw09.HouseNews'. -/
def houseNewsCard : Claim7 := { stood := { row := houseNewsRow, standIns := [], harness := (true, "38b002aaa0cc42011a9012a558afe0040d4330837fa69f6fc47ea4834dd62502"), looks := true }, kinds := [], alts := [], laidByText := true, laidKinds := [.data, .data, .data, .data, .handle, .sentinel, .sentinel, .pinned], laidTests := true, laidLooks := .later }
def HouseNewsCardSaid : Prop := Claim7.holds Tryz.pinned (.plain (OpenSpec.ofChange houseNewsSpec)) houseNewsCard

/-- THE TIED CARD OF 'drayagetop.TopHouse'. -/
def topHouseCard : Claim7 := { stood := { row := topHouseRow, standIns := [], harness := (true, "38b002aaa0cc42011a9012a558afe0040d4330837fa69f6fc47ea4834dd62502"), looks := true }, kinds := [], alts := [], laidByText := true, laidKinds := [.data, .data, .data, .data, .handle, .sentinel, .sentinel, .pinned], laidTests := true, laidLooks := .later }
def TopHouseCardSaid : Prop := Claim7.holds Tryz.pinned (.plain (OpenSpec.ofChange topHouseSpec)) topHouseCard

/-- THE TIED CARD OF 'drayagetop.TopStream'. -/
def topStreamCard : Claim7 := { stood := { row := topStreamRow, standIns := [], harness := (true, "38b002aaa0cc42011a9012a558afe0040d4330837fa69f6fc47ea4834dd62502"), looks := true }, kinds := [], alts := [], laidByText := true, laidKinds := [.data, .data, .data, .data, .handle, .sentinel, .sentinel, .pinned], laidTests := true, laidLooks := .later }
def TopStreamCardSaid : Prop := Claim7.holds Tryz.pinned (.plain (OpenSpec.ofChange topStreamSpec)) topStreamCard

/-- THE SECOND FORM's CARD OF 'drayagelaw09.HouseOrders'. -/
def houseOrdersUptoCard : Claim7 := { stood := { row := houseOrdersUptoRow, standIns := [], harness := (true, "38b002aaa0cc42011a9012a558afe0040d4330837fa69f6fc47ea4834dd62502"), looks := true }, kinds := [], alts := [], laidByText := true, laidKinds := [.data, .data, .data, .data, .handle, .sentinel, .sentinel, .pinned], laidTests := true, laidLooks := .later }
def HouseOrdersUptoCardSaid : Prop := Claim7.holds Tryz.pinned (.plain (OpenSpec.upto houseOrdersSpec)) houseOrdersUptoCard

/-- THE SECOND FORM's CARD OF 'drayagelaw09.HouseRefuses'. -/
def houseRefusesUptoCard : Claim7 := { stood := { row := houseRefusesUptoRow, standIns := [], harness := (true, "38b002aaa0cc42011a9012a558afe0040d4330837fa69f6fc47ea4834dd62502"), looks := true }, kinds := [], alts := [], laidByText := true, laidKinds := [.data, .data, .data, .data, .handle, .sentinel, .sentinel, .pinned], laidTests := true, laidLooks := .later }
def HouseRefusesUptoCardSaid : Prop := Claim7.holds Tryz.pinned (.plain (OpenSpec.upto houseRefusesSpec)) houseRefusesUptoCard

/-- THE SECOND FORM's CARD OF 'drayagelaw09.HouseReplays'. -/
def houseReplaysUptoCard : Claim7 := { stood := { row := houseReplaysUptoRow, standIns := [], harness := (true, "38b002aaa0cc42011a9012a558afe0040d4330837fa69f6fc47ea4834dd62502"), looks := true }, kinds := [], alts := [], laidByText := true, laidKinds := [.data, .data, .data, .data, .handle, .sentinel, .sentinel, .pinned], laidTests := true, laidLooks := .later }
def HouseReplaysUptoCardSaid : Prop := Claim7.holds Tryz.pinned (.plain (OpenSpec.upto houseReplaysSpec)) houseReplaysUptoCard

/-- THE SECOND FORM's CARD OF 'drayagelaw09.HouseSolves'. -/
def houseSolvesUptoCard : Claim7 := { stood := { row := houseSolvesUptoRow, standIns := [], harness := (true, "38b002aaa0cc42011a9012a558afe0040d4330837fa69f6fc47ea4834dd62502"), looks := true }, kinds := [], alts := [], laidByText := true, laidKinds := [.data, .data, .data, .data, .handle, .sentinel, .sentinel, .pinned], laidTests := true, laidLooks := .later }
def HouseSolvesUptoCardSaid : Prop := Claim7.holds Tryz.pinned (.plain (OpenSpec.upto houseSolvesSpec)) houseSolvesUptoCard

/-- THE SECOND FORM's CARD OF 'drayagelaw09.HouseBegins'. -/
def houseBeginsUptoCard : Claim7 := { stood := { row := houseBeginsUptoRow, standIns := [], harness := (true, "38b002aaa0cc42011a9012a558afe0040d4330837fa69f6fc47ea4834dd62502"), looks := true }, kinds := [], alts := [], laidByText := true, laidKinds := [.data, .data, .data, .data, .handle, .sentinel, .sentinel, .pinned], laidTests := true, laidLooks := .later }
def HouseBeginsUptoCardSaid : Prop := Claim7.holds Tryz.pinned (.plain (OpenSpec.upto houseBeginsSpec)) houseBeginsUptoCard

/-- THE SECOND FORM's CARD OF 'drayagelaw09.HouseJudges'. -/
def houseJudgesUptoCard : Claim7 := { stood := { row := houseJudgesUptoRow, standIns := [], harness := (true, "38b002aaa0cc42011a9012a558afe0040d4330837fa69f6fc47ea4834dd62502"), looks := true }, kinds := [], alts := [], laidByText := true, laidKinds := [.data, .data, .data, .data, .handle, .sentinel, .sentinel, .pinned], laidTests := true, laidLooks := .later }
def HouseJudgesUptoCardSaid : Prop := Claim7.holds Tryz.pinned (.plain (OpenSpec.upto houseJudgesSpec)) houseJudgesUptoCard

/-- THE SECOND FORM's CARD OF 'drayagelaw09.HouseAudits'. -/
def houseAuditsUptoCard : Claim7 := { stood := { row := houseAuditsUptoRow, standIns := [], harness := (true, "38b002aaa0cc42011a9012a558afe0040d4330837fa69f6fc47ea4834dd62502"), looks := true }, kinds := [], alts := [], laidByText := true, laidKinds := [.data, .data, .data, .data, .handle, .sentinel, .sentinel, .pinned], laidTests := true, laidLooks := .later }
def HouseAuditsUptoCardSaid : Prop := Claim7.holds Tryz.pinned (.plain (OpenSpec.upto houseAuditsSpec)) houseAuditsUptoCard

/-- THE SECOND FORM's CARD OF 'drayagelaw09.HouseNews'. -/
def houseNewsUptoCard : Claim7 := { stood := { row := houseNewsUptoRow, standIns := [], harness := (true, "38b002aaa0cc42011a9012a558afe0040d4330837fa69f6fc47ea4834dd62502"), looks := true }, kinds := [], alts := [], laidByText := true, laidKinds := [.data, .data, .data, .data, .handle, .sentinel, .sentinel, .pinned], laidTests := true, laidLooks := .later }
def HouseNewsUptoCardSaid : Prop := Claim7.holds Tryz.pinned (.plain (OpenSpec.upto houseNewsSpec)) houseNewsUptoCard

/-- THE SECOND FORM's CARD OF 'drayagetop.TopHouse'. -/
def topHouseUptoCard : Claim7 := { stood := { row := topHouseUptoRow, standIns := [], harness := (true, "38b002aaa0cc42011a9012a558afe0040d4330837fa69f6fc47ea4834dd62502"), looks := true }, kinds := [], alts := [], laidByText := true, laidKinds := [.data, .data, .data, .data, .handle, .sentinel, .sentinel, .pinned], laidTests := true, laidLooks := .later }
def TopHouseUptoCardSaid : Prop := Claim7.holds Tryz.pinned (.plain (OpenSpec.upto topHouseSpec)) topHouseUptoCard

/-- THE SECOND FORM's CARD OF 'drayagetop.TopStream'. -/
def topStreamUptoCard : Claim7 := { stood := { row := topStreamUptoRow, standIns := [], harness := (true, "38b002aaa0cc42011a9012a558afe0040d4330837fa69f6fc47ea4834dd62502"), looks := true }, kinds := [], alts := [], laidByText := true, laidKinds := [.data, .data, .data, .data, .handle, .sentinel, .sentinel, .pinned], laidTests := true, laidLooks := .later }
def TopStreamUptoCardSaid : Prop := Claim7.holds Tryz.pinned (.plain (OpenSpec.upto topStreamSpec)) topStreamUptoCard
end Rows
end Go.Proofs.YtekfodeknpnkbaaGreatDoor
