/-
  DERIVED. GIVEN WITH THE SEED: THE CARDS: each row of YtlgkplnifaoeeaaGreatDoorRows.lean that lists a variable, with what it lists TIED to the program's text (the seventh form; the later family's looks); each row that meets fmt, with fmt's text TOLD by the authors' own Lean function (tested against real Go, not proved from fmt's source: count such statements apart). THE CARD IS WHAT COUNTS. Prove the row's statement (the work); the ties are given (YtlgkplnifaoeeaaGreatDoorTie.lean); close each card by the builder's one call (the guide's Derived/Test/ToyasCard.lean, 'card_holds'). Laid BY PROGRAM, IN A SANDBOX (cutbox-door.mjs). By AI agents, Wed Nov 11 2026. No macro, syntax, notation, axiom, sorry.
-/
import Derived.Test.YtlgkplnifaoeeaaGreatDoorRows
import GoSem.ClaimSeven
namespace Go.Proofs.YtlgkplnifaoeeaaGreatDoor
namespace Rows

/-- THE TIED CARD OF 'drayagelaw09.HouseSums'. -/
def houseSumsCard : Claim7 := { stood := { row := houseSumsRow, standIns := [], harness := (true, "0146e591f237301b7053da96baa47155bf57fa013d55b738f4f6b2de920f81fe"), looks := true }, kinds := [], alts := [], laidByText := true, laidKinds := [.data, .data, .data, .data, .handle, .sentinel, .sentinel, .pinned], laidTests := true, laidLooks := .later }
def HouseSumsCardSaid : Prop := Claim7.holds Tryz.pinned (.plain (OpenSpec.ofChange houseSumsSpec)) houseSumsCard

/-- THE TIED CARD OF 'drayagelaw09.HousePalettes'. -/
def housePalettesCard : Claim7 := { stood := { row := housePalettesRow, standIns := [], harness := (true, "0146e591f237301b7053da96baa47155bf57fa013d55b738f4f6b2de920f81fe"), looks := true }, kinds := [], alts := [], laidByText := true, laidKinds := [.data, .data, .data, .data, .handle, .sentinel, .sentinel, .pinned], laidTests := true, laidLooks := .later }
def HousePalettesCardSaid : Prop := Claim7.holds Tryz.pinned (.plain (OpenSpec.ofChange housePalettesSpec)) housePalettesCard

/-- THE TIED CARD OF 'drayagelaw09.HousePaints'. -/
def housePaintsCard : Claim7 := { stood := { row := housePaintsRow, standIns := [], harness := (true, "0146e591f237301b7053da96baa47155bf57fa013d55b738f4f6b2de920f81fe"), looks := true }, kinds := [], alts := [], laidByText := true, laidKinds := [.data, .data, .data, .data, .handle, .sentinel, .sentinel, .pinned], laidTests := true, laidLooks := .later }
def HousePaintsCardSaid : Prop := Claim7.holds Tryz.pinned (.plain (OpenSpec.ofChange housePaintsSpec)) housePaintsCard

/-- THE TIED CARD OF 'drayagelaw09.HouseRuns'. -/
def houseRunsCard : Claim7 := { stood := { row := houseRunsRow, standIns := [], harness := (true, "0146e591f237301b7053da96baa47155bf57fa013d55b738f4f6b2de920f81fe"), looks := true }, kinds := [], alts := [], laidByText := true, laidKinds := [.data, .data, .data, .data, .handle, .sentinel, .sentinel, .pinned], laidTests := true, laidLooks := .later }
def HouseRunsCardSaid : Prop := Claim7.holds Tryz.pinned (.plain (OpenSpec.ofChange houseRunsSpec)) houseRunsCard

/-- THE TIED CARD OF 'drayagelaw09.HouseReads'. -/
def houseReadsCard : Claim7 := { stood := { row := houseReadsRow, standIns := [], harness := (true, "0146e591f237301b7053da96baa47155bf57fa013d55b738f4f6b2de920f81fe"), looks := true }, kinds := [], alts := [], laidByText := true, laidKinds := [.data, .data, .data, .data, .handle, .sentinel, .sentinel, .pinned], laidTests := true, laidLooks := .later }
def HouseReadsCardSaid : Prop := Claim7.holds Tryz.pinned (.plain (OpenSpec.ofChange houseReadsSpec)) houseReadsCard

/-- THE TIED CARD OF 'drayagelaw09.HouseOrders'. -/
def houseOrdersCard : Claim7 := { stood := { row := houseOrdersRow, standIns := [], harness := (true, "0146e591f237301b7053da96baa47155bf57fa013d55b738f4f6b2de920f81fe"), looks := true }, kinds := [], alts := [], laidByText := true, laidKinds := [.data, .data, .data, .data, .handle, .sentinel, .sentinel, .pinned], laidTests := true, laidLooks := .later }
def HouseOrdersCardSaid : Prop := Claim7.holds Tryz.pinned (.plain (OpenSpec.ofChange houseOrdersSpec)) houseOrdersCard

/-- THE TIED CARD OF 'drayagelaw09.HouseMerges'. -/
def houseMergesCard : Claim7 := { stood := { row := houseMergesRow, standIns := [], harness := (true, "0146e591f237301b7053da96baa47155bf57fa013d55b738f4f6b2de920f81fe"), looks := true }, kinds := [], alts := [], laidByText := true, laidKinds := [.data, .data, .data, .data, .handle, .sentinel, .sentinel, .pinned], laidTests := true, laidLooks := .later }
def HouseMergesCardSaid : Prop := Claim7.holds Tryz.pinned (.plain (OpenSpec.ofChange houseMergesSpec)) houseMergesCard

/-- THE TIED CARD OF 'drayagelaw09.HouseProves'. -/
def houseProvesCard : Claim7 := { stood := { row := houseProvesRow, standIns := [], harness := (true, "0146e591f237301b7053da96baa47155bf57fa013d55b738f4f6b2de920f81fe"), looks := true }, kinds := [], alts := [], laidByText := true, laidKinds := [.data, .data, .data, .data, .handle, .sentinel, .sentinel, .pinned], laidTests := true, laidLooks := .later }
def HouseProvesCardSaid : Prop := Claim7.holds Tryz.pinned (.plain (OpenSpec.ofChange houseProvesSpec)) houseProvesCard

/-- THE TIED CARD OF 'drayagelaw09.HouseRefuses'. -/
def houseRefusesCard : Claim7 := { stood := { row := houseRefusesRow, standIns := [], harness := (true, "0146e591f237301b7053da96baa47155bf57fa013d55b738f4f6b2de920f81fe"), looks := true }, kinds := [], alts := [], laidByText := true, laidKinds := [.data, .data, .data, .data, .handle, .sentinel, .sentinel, .pinned], laidTests := true, laidLooks := .later }
def HouseRefusesCardSaid : Prop := Claim7.holds Tryz.pinned (.plain (OpenSpec.ofChange houseRefusesSpec)) houseRefusesCard

/-- THE TIED CARD OF 'drayagelaw09.HouseReplays'. -/
def houseReplaysCard : Claim7 := { stood := { row := houseReplaysRow, standIns := [], harness := (true, "0146e591f237301b7053da96baa47155bf57fa013d55b738f4f6b2de920f81fe"), looks := true }, kinds := [], alts := [], laidByText := true, laidKinds := [.data, .data, .data, .data, .handle, .sentinel, .sentinel, .pinned], laidTests := true, laidLooks := .later }
def HouseReplaysCardSaid : Prop := Claim7.holds Tryz.pinned (.plain (OpenSpec.ofChange houseReplaysSpec)) houseReplaysCard

/-- THE TIED CARD OF 'drayagelaw09.HouseSolves'. -/
def houseSolvesCard : Claim7 := { stood := { row := houseSolvesRow, standIns := [], harness := (true, "0146e591f237301b7053da96baa47155bf57fa013d55b738f4f6b2de920f81fe"), looks := true }, kinds := [], alts := [], laidByText := true, laidKinds := [.data, .data, .data, .data, .handle, .sentinel, .sentinel, .pinned], laidTests := true, laidLooks := .later }
def HouseSolvesCardSaid : Prop := Claim7.holds Tryz.pinned (.plain (OpenSpec.ofChange houseSolvesSpec)) houseSolvesCard

/-- THE TIED CARD OF 'drayagelaw09.HouseBegins'. -/
def houseBeginsCard : Claim7 := { stood := { row := houseBeginsRow, standIns := [], harness := (true, "0146e591f237301b7053da96baa47155bf57fa013d55b738f4f6b2de920f81fe"), looks := true }, kinds := [], alts := [], laidByText := true, laidKinds := [.data, .data, .data, .data, .handle, .sentinel, .sentinel, .pinned], laidTests := true, laidLooks := .later }
def HouseBeginsCardSaid : Prop := Claim7.holds Tryz.pinned (.plain (OpenSpec.ofChange houseBeginsSpec)) houseBeginsCard

/-- THE TIED CARD OF 'drayagelaw09.HouseJudges'. -/
def houseJudgesCard : Claim7 := { stood := { row := houseJudgesRow, standIns := [], harness := (true, "0146e591f237301b7053da96baa47155bf57fa013d55b738f4f6b2de920f81fe"), looks := true }, kinds := [], alts := [], laidByText := true, laidKinds := [.data, .data, .data, .data, .handle, .sentinel, .sentinel, .pinned], laidTests := true, laidLooks := .later }
def HouseJudgesCardSaid : Prop := Claim7.holds Tryz.pinned (.plain (OpenSpec.ofChange houseJudgesSpec)) houseJudgesCard

/-- THE TIED CARD OF 'drayagelaw09.HouseAudits'. -/
def houseAuditsCard : Claim7 := { stood := { row := houseAuditsRow, standIns := [], harness := (true, "0146e591f237301b7053da96baa47155bf57fa013d55b738f4f6b2de920f81fe"), looks := true }, kinds := [], alts := [], laidByText := true, laidKinds := [.data, .data, .data, .data, .handle, .sentinel, .sentinel, .pinned], laidTests := true, laidLooks := .later }
def HouseAuditsCardSaid : Prop := Claim7.holds Tryz.pinned (.plain (OpenSpec.ofChange houseAuditsSpec)) houseAuditsCard

/-- THE TIED CARD OF 'drayagelaw09.HouseNews'. -/
def houseNewsCard : Claim7 := { stood := { row := houseNewsRow, standIns := [], harness := (true, "0146e591f237301b7053da96baa47155bf57fa013d55b738f4f6b2de920f81fe"), looks := true }, kinds := [], alts := [], laidByText := true, laidKinds := [.data, .data, .data, .data, .handle, .sentinel, .sentinel, .pinned], laidTests := true, laidLooks := .later }
def HouseNewsCardSaid : Prop := Claim7.holds Tryz.pinned (.plain (OpenSpec.ofChange houseNewsSpec)) houseNewsCard

/-- THE SECOND FORM's CARD OF 'drayagelaw09.HouseSums'. -/
def houseSumsUptoCard : Claim7 := { stood := { row := houseSumsUptoRow, standIns := [], harness := (true, "0146e591f237301b7053da96baa47155bf57fa013d55b738f4f6b2de920f81fe"), looks := true }, kinds := [], alts := [], laidByText := true, laidKinds := [.data, .data, .data, .data, .handle, .sentinel, .sentinel, .pinned], laidTests := true, laidLooks := .later }
def HouseSumsUptoCardSaid : Prop := Claim7.holds Tryz.pinned (.plain (OpenSpec.upto houseSumsSpec)) houseSumsUptoCard

/-- THE SECOND FORM's CARD OF 'drayagelaw09.HousePalettes'. -/
def housePalettesUptoCard : Claim7 := { stood := { row := housePalettesUptoRow, standIns := [], harness := (true, "0146e591f237301b7053da96baa47155bf57fa013d55b738f4f6b2de920f81fe"), looks := true }, kinds := [], alts := [], laidByText := true, laidKinds := [.data, .data, .data, .data, .handle, .sentinel, .sentinel, .pinned], laidTests := true, laidLooks := .later }
def HousePalettesUptoCardSaid : Prop := Claim7.holds Tryz.pinned (.plain (OpenSpec.upto housePalettesSpec)) housePalettesUptoCard

/-- THE SECOND FORM's CARD OF 'drayagelaw09.HousePaints'. -/
def housePaintsUptoCard : Claim7 := { stood := { row := housePaintsUptoRow, standIns := [], harness := (true, "0146e591f237301b7053da96baa47155bf57fa013d55b738f4f6b2de920f81fe"), looks := true }, kinds := [], alts := [], laidByText := true, laidKinds := [.data, .data, .data, .data, .handle, .sentinel, .sentinel, .pinned], laidTests := true, laidLooks := .later }
def HousePaintsUptoCardSaid : Prop := Claim7.holds Tryz.pinned (.plain (OpenSpec.upto housePaintsSpec)) housePaintsUptoCard

/-- THE SECOND FORM's CARD OF 'drayagelaw09.HouseRuns'. -/
def houseRunsUptoCard : Claim7 := { stood := { row := houseRunsUptoRow, standIns := [], harness := (true, "0146e591f237301b7053da96baa47155bf57fa013d55b738f4f6b2de920f81fe"), looks := true }, kinds := [], alts := [], laidByText := true, laidKinds := [.data, .data, .data, .data, .handle, .sentinel, .sentinel, .pinned], laidTests := true, laidLooks := .later }
def HouseRunsUptoCardSaid : Prop := Claim7.holds Tryz.pinned (.plain (OpenSpec.upto houseRunsSpec)) houseRunsUptoCard

/-- THE SECOND FORM's CARD OF 'drayagelaw09.HouseReads'. -/
def houseReadsUptoCard : Claim7 := { stood := { row := houseReadsUptoRow, standIns := [], harness := (true, "0146e591f237301b7053da96baa47155bf57fa013d55b738f4f6b2de920f81fe"), looks := true }, kinds := [], alts := [], laidByText := true, laidKinds := [.data, .data, .data, .data, .handle, .sentinel, .sentinel, .pinned], laidTests := true, laidLooks := .later }
def HouseReadsUptoCardSaid : Prop := Claim7.holds Tryz.pinned (.plain (OpenSpec.upto houseReadsSpec)) houseReadsUptoCard

/-- THE SECOND FORM's CARD OF 'drayagelaw09.HouseOrders'. -/
def houseOrdersUptoCard : Claim7 := { stood := { row := houseOrdersUptoRow, standIns := [], harness := (true, "0146e591f237301b7053da96baa47155bf57fa013d55b738f4f6b2de920f81fe"), looks := true }, kinds := [], alts := [], laidByText := true, laidKinds := [.data, .data, .data, .data, .handle, .sentinel, .sentinel, .pinned], laidTests := true, laidLooks := .later }
def HouseOrdersUptoCardSaid : Prop := Claim7.holds Tryz.pinned (.plain (OpenSpec.upto houseOrdersSpec)) houseOrdersUptoCard

/-- THE SECOND FORM's CARD OF 'drayagelaw09.HouseMerges'. -/
def houseMergesUptoCard : Claim7 := { stood := { row := houseMergesUptoRow, standIns := [], harness := (true, "0146e591f237301b7053da96baa47155bf57fa013d55b738f4f6b2de920f81fe"), looks := true }, kinds := [], alts := [], laidByText := true, laidKinds := [.data, .data, .data, .data, .handle, .sentinel, .sentinel, .pinned], laidTests := true, laidLooks := .later }
def HouseMergesUptoCardSaid : Prop := Claim7.holds Tryz.pinned (.plain (OpenSpec.upto houseMergesSpec)) houseMergesUptoCard

/-- THE SECOND FORM's CARD OF 'drayagelaw09.HouseProves'. -/
def houseProvesUptoCard : Claim7 := { stood := { row := houseProvesUptoRow, standIns := [], harness := (true, "0146e591f237301b7053da96baa47155bf57fa013d55b738f4f6b2de920f81fe"), looks := true }, kinds := [], alts := [], laidByText := true, laidKinds := [.data, .data, .data, .data, .handle, .sentinel, .sentinel, .pinned], laidTests := true, laidLooks := .later }
def HouseProvesUptoCardSaid : Prop := Claim7.holds Tryz.pinned (.plain (OpenSpec.upto houseProvesSpec)) houseProvesUptoCard

/-- THE SECOND FORM's CARD OF 'drayagelaw09.HouseRefuses'. -/
def houseRefusesUptoCard : Claim7 := { stood := { row := houseRefusesUptoRow, standIns := [], harness := (true, "0146e591f237301b7053da96baa47155bf57fa013d55b738f4f6b2de920f81fe"), looks := true }, kinds := [], alts := [], laidByText := true, laidKinds := [.data, .data, .data, .data, .handle, .sentinel, .sentinel, .pinned], laidTests := true, laidLooks := .later }
def HouseRefusesUptoCardSaid : Prop := Claim7.holds Tryz.pinned (.plain (OpenSpec.upto houseRefusesSpec)) houseRefusesUptoCard

/-- THE SECOND FORM's CARD OF 'drayagelaw09.HouseReplays'. -/
def houseReplaysUptoCard : Claim7 := { stood := { row := houseReplaysUptoRow, standIns := [], harness := (true, "0146e591f237301b7053da96baa47155bf57fa013d55b738f4f6b2de920f81fe"), looks := true }, kinds := [], alts := [], laidByText := true, laidKinds := [.data, .data, .data, .data, .handle, .sentinel, .sentinel, .pinned], laidTests := true, laidLooks := .later }
def HouseReplaysUptoCardSaid : Prop := Claim7.holds Tryz.pinned (.plain (OpenSpec.upto houseReplaysSpec)) houseReplaysUptoCard

/-- THE SECOND FORM's CARD OF 'drayagelaw09.HouseSolves'. -/
def houseSolvesUptoCard : Claim7 := { stood := { row := houseSolvesUptoRow, standIns := [], harness := (true, "0146e591f237301b7053da96baa47155bf57fa013d55b738f4f6b2de920f81fe"), looks := true }, kinds := [], alts := [], laidByText := true, laidKinds := [.data, .data, .data, .data, .handle, .sentinel, .sentinel, .pinned], laidTests := true, laidLooks := .later }
def HouseSolvesUptoCardSaid : Prop := Claim7.holds Tryz.pinned (.plain (OpenSpec.upto houseSolvesSpec)) houseSolvesUptoCard

/-- THE SECOND FORM's CARD OF 'drayagelaw09.HouseBegins'. -/
def houseBeginsUptoCard : Claim7 := { stood := { row := houseBeginsUptoRow, standIns := [], harness := (true, "0146e591f237301b7053da96baa47155bf57fa013d55b738f4f6b2de920f81fe"), looks := true }, kinds := [], alts := [], laidByText := true, laidKinds := [.data, .data, .data, .data, .handle, .sentinel, .sentinel, .pinned], laidTests := true, laidLooks := .later }
def HouseBeginsUptoCardSaid : Prop := Claim7.holds Tryz.pinned (.plain (OpenSpec.upto houseBeginsSpec)) houseBeginsUptoCard

/-- THE SECOND FORM's CARD OF 'drayagelaw09.HouseJudges'. -/
def houseJudgesUptoCard : Claim7 := { stood := { row := houseJudgesUptoRow, standIns := [], harness := (true, "0146e591f237301b7053da96baa47155bf57fa013d55b738f4f6b2de920f81fe"), looks := true }, kinds := [], alts := [], laidByText := true, laidKinds := [.data, .data, .data, .data, .handle, .sentinel, .sentinel, .pinned], laidTests := true, laidLooks := .later }
def HouseJudgesUptoCardSaid : Prop := Claim7.holds Tryz.pinned (.plain (OpenSpec.upto houseJudgesSpec)) houseJudgesUptoCard

/-- THE SECOND FORM's CARD OF 'drayagelaw09.HouseAudits'. -/
def houseAuditsUptoCard : Claim7 := { stood := { row := houseAuditsUptoRow, standIns := [], harness := (true, "0146e591f237301b7053da96baa47155bf57fa013d55b738f4f6b2de920f81fe"), looks := true }, kinds := [], alts := [], laidByText := true, laidKinds := [.data, .data, .data, .data, .handle, .sentinel, .sentinel, .pinned], laidTests := true, laidLooks := .later }
def HouseAuditsUptoCardSaid : Prop := Claim7.holds Tryz.pinned (.plain (OpenSpec.upto houseAuditsSpec)) houseAuditsUptoCard

/-- THE SECOND FORM's CARD OF 'drayagelaw09.HouseNews'. -/
def houseNewsUptoCard : Claim7 := { stood := { row := houseNewsUptoRow, standIns := [], harness := (true, "0146e591f237301b7053da96baa47155bf57fa013d55b738f4f6b2de920f81fe"), looks := true }, kinds := [], alts := [], laidByText := true, laidKinds := [.data, .data, .data, .data, .handle, .sentinel, .sentinel, .pinned], laidTests := true, laidLooks := .later }
def HouseNewsUptoCardSaid : Prop := Claim7.holds Tryz.pinned (.plain (OpenSpec.upto houseNewsSpec)) houseNewsUptoCard
end Rows
end Go.Proofs.YtlgkplnifaoeeaaGreatDoor
