/-
  DERIVED. GIVEN WITH THE SEED: THE CARDS: each row of YtghhkbigmmjanaaGreatDoorRows.lean that lists a variable, with what it lists TIED to the program's text (the seventh form; the later family's looks); each row that meets fmt, with fmt's text TOLD by the authors' own Lean function (tested against real Go, not proved from fmt's source: count such statements apart). THE CARD IS WHAT COUNTS. Prove the row's statement (the work); the ties are given (YtghhkbigmmjanaaGreatDoorTie.lean); close each card by the builder's one call (the guide's Derived/Test/ToyasCard.lean, 'card_holds'). Laid BY PROGRAM, IN A SANDBOX (cutbox-door.mjs). By AI agents, Wed Nov 11 2026. No macro, syntax, notation, axiom, sorry.
-/
import Derived.Test.YtghhkbigmmjanaaGreatDoorRows
import GoSem.ClaimSeven
namespace Go.Proofs.YtghhkbigmmjanaaGreatDoor
namespace Rows

/-- THE TIED CARD OF 'proteanlaw02.ParseTexts'. -/
def parseTextsCard : Claim7 := { stood := { row := parseTextsRow, standIns := [], harness := (true, "792894569bea1ddca75a193a31a2eba47b70e496faeef7820506a74949014cb7"), looks := true }, kinds := [], alts := [], laidByText := true, laidKinds := [.data, .data, .data, .sentinel, .sentinel], laidTests := true, laidLooks := .later }
def ParseTextsCardSaid : Prop := Claim7.holds Tryz.pinned (.plain (OpenSpec.ofChange parseTextsSpec)) parseTextsCard

/-- THE TIED CARD OF 'proteanlaw02.ParseSame'. -/
def parseSameCard : Claim7 := { stood := { row := parseSameRow, standIns := [], harness := (true, "792894569bea1ddca75a193a31a2eba47b70e496faeef7820506a74949014cb7"), looks := true }, kinds := [], alts := [], laidByText := true, laidKinds := [.data, .data, .data, .sentinel, .sentinel], laidTests := true, laidLooks := .later }
def ParseSameCardSaid : Prop := Claim7.holds Tryz.pinned (.plain (OpenSpec.ofChange parseSameSpec)) parseSameCard

/-- THE TIED CARD OF 'proteanlaw03.PrintTells'. -/
def printTellsCard : Claim7 := { stood := { row := printTellsRow, standIns := [], harness := (true, "792894569bea1ddca75a193a31a2eba47b70e496faeef7820506a74949014cb7"), looks := true }, kinds := [], alts := [], laidByText := true, laidKinds := [.data, .data, .data, .sentinel, .sentinel], laidTests := true, laidLooks := .later }
def PrintTellsCardSaid : Prop := Claim7.holds Tryz.pinned (.plain (OpenSpec.ofChange printTellsSpec)) printTellsCard

/-- THE TIED CARD OF 'proteanlaw03.PrintStmts'. -/
def printStmtsCard : Claim7 := { stood := { row := printStmtsRow, standIns := [], harness := (true, "792894569bea1ddca75a193a31a2eba47b70e496faeef7820506a74949014cb7"), looks := true }, kinds := [], alts := [], laidByText := true, laidKinds := [.data, .data, .data, .sentinel, .sentinel], laidTests := true, laidLooks := .later }
def PrintStmtsCardSaid : Prop := Claim7.holds Tryz.pinned (.plain (OpenSpec.ofChange printStmtsSpec)) printStmtsCard

/-- THE TIED CARD OF 'proteanlaw03.PrintBack'. -/
def printBackCard : Claim7 := { stood := { row := printBackRow, standIns := [], harness := (true, "792894569bea1ddca75a193a31a2eba47b70e496faeef7820506a74949014cb7"), looks := true }, kinds := [], alts := [], laidByText := true, laidKinds := [.data, .data, .data, .sentinel, .sentinel], laidTests := true, laidLooks := .later }
def PrintBackCardSaid : Prop := Claim7.holds Tryz.pinned (.plain (OpenSpec.ofChange printBackSpec)) printBackCard

/-- THE TIED CARD OF 'proteanlaw03.PrintParsed'. -/
def printParsedCard : Claim7 := { stood := { row := printParsedRow, standIns := [], harness := (true, "792894569bea1ddca75a193a31a2eba47b70e496faeef7820506a74949014cb7"), looks := true }, kinds := [], alts := [], laidByText := true, laidKinds := [.data, .data, .data, .sentinel, .sentinel], laidTests := true, laidLooks := .later }
def PrintParsedCardSaid : Prop := Claim7.holds Tryz.pinned (.plain (OpenSpec.ofChange printParsedSpec)) printParsedCard

/-- THE TIED CARD OF 'proteanlaw03.PrintParts'. -/
def printPartsCard : Claim7 := { stood := { row := printPartsRow, standIns := [], harness := (true, "792894569bea1ddca75a193a31a2eba47b70e496faeef7820506a74949014cb7"), looks := true }, kinds := [], alts := [], laidByText := true, laidKinds := [.data, .data, .data, .sentinel, .sentinel], laidTests := true, laidLooks := .later }
def PrintPartsCardSaid : Prop := Claim7.holds Tryz.pinned (.plain (OpenSpec.ofChange printPartsSpec)) printPartsCard

/-- THE TIED CARD OF 'proteanlaw03.PrintLines'. -/
def printLinesCard : Claim7 := { stood := { row := printLinesRow, standIns := [], harness := (true, "792894569bea1ddca75a193a31a2eba47b70e496faeef7820506a74949014cb7"), looks := true }, kinds := [], alts := [], laidByText := true, laidKinds := [.data, .data, .data, .sentinel, .sentinel], laidTests := true, laidLooks := .later }
def PrintLinesCardSaid : Prop := Claim7.holds Tryz.pinned (.plain (OpenSpec.ofChange printLinesSpec)) printLinesCard

/-- THE SECOND FORM's CARD OF 'proteanlaw02.ParseTexts'. -/
def parseTextsUptoCard : Claim7 := { stood := { row := parseTextsUptoRow, standIns := [], harness := (true, "792894569bea1ddca75a193a31a2eba47b70e496faeef7820506a74949014cb7"), looks := true }, kinds := [], alts := [], laidByText := true, laidKinds := [.data, .data, .data, .sentinel, .sentinel], laidTests := true, laidLooks := .later }
def ParseTextsUptoCardSaid : Prop := Claim7.holds Tryz.pinned (.plain (OpenSpec.upto parseTextsSpec)) parseTextsUptoCard

/-- THE SECOND FORM's CARD OF 'proteanlaw02.ParseSame'. -/
def parseSameUptoCard : Claim7 := { stood := { row := parseSameUptoRow, standIns := [], harness := (true, "792894569bea1ddca75a193a31a2eba47b70e496faeef7820506a74949014cb7"), looks := true }, kinds := [], alts := [], laidByText := true, laidKinds := [.data, .data, .data, .sentinel, .sentinel], laidTests := true, laidLooks := .later }
def ParseSameUptoCardSaid : Prop := Claim7.holds Tryz.pinned (.plain (OpenSpec.upto parseSameSpec)) parseSameUptoCard

/-- THE SECOND FORM's CARD OF 'proteanlaw03.PrintTells'. -/
def printTellsUptoCard : Claim7 := { stood := { row := printTellsUptoRow, standIns := [], harness := (true, "792894569bea1ddca75a193a31a2eba47b70e496faeef7820506a74949014cb7"), looks := true }, kinds := [], alts := [], laidByText := true, laidKinds := [.data, .data, .data, .sentinel, .sentinel], laidTests := true, laidLooks := .later }
def PrintTellsUptoCardSaid : Prop := Claim7.holds Tryz.pinned (.plain (OpenSpec.upto printTellsSpec)) printTellsUptoCard

/-- THE SECOND FORM's CARD OF 'proteanlaw03.PrintStmts'. -/
def printStmtsUptoCard : Claim7 := { stood := { row := printStmtsUptoRow, standIns := [], harness := (true, "792894569bea1ddca75a193a31a2eba47b70e496faeef7820506a74949014cb7"), looks := true }, kinds := [], alts := [], laidByText := true, laidKinds := [.data, .data, .data, .sentinel, .sentinel], laidTests := true, laidLooks := .later }
def PrintStmtsUptoCardSaid : Prop := Claim7.holds Tryz.pinned (.plain (OpenSpec.upto printStmtsSpec)) printStmtsUptoCard

/-- THE SECOND FORM's CARD OF 'proteanlaw03.PrintBack'. -/
def printBackUptoCard : Claim7 := { stood := { row := printBackUptoRow, standIns := [], harness := (true, "792894569bea1ddca75a193a31a2eba47b70e496faeef7820506a74949014cb7"), looks := true }, kinds := [], alts := [], laidByText := true, laidKinds := [.data, .data, .data, .sentinel, .sentinel], laidTests := true, laidLooks := .later }
def PrintBackUptoCardSaid : Prop := Claim7.holds Tryz.pinned (.plain (OpenSpec.upto printBackSpec)) printBackUptoCard

/-- THE SECOND FORM's CARD OF 'proteanlaw03.PrintParsed'. -/
def printParsedUptoCard : Claim7 := { stood := { row := printParsedUptoRow, standIns := [], harness := (true, "792894569bea1ddca75a193a31a2eba47b70e496faeef7820506a74949014cb7"), looks := true }, kinds := [], alts := [], laidByText := true, laidKinds := [.data, .data, .data, .sentinel, .sentinel], laidTests := true, laidLooks := .later }
def PrintParsedUptoCardSaid : Prop := Claim7.holds Tryz.pinned (.plain (OpenSpec.upto printParsedSpec)) printParsedUptoCard

/-- THE SECOND FORM's CARD OF 'proteanlaw03.PrintParts'. -/
def printPartsUptoCard : Claim7 := { stood := { row := printPartsUptoRow, standIns := [], harness := (true, "792894569bea1ddca75a193a31a2eba47b70e496faeef7820506a74949014cb7"), looks := true }, kinds := [], alts := [], laidByText := true, laidKinds := [.data, .data, .data, .sentinel, .sentinel], laidTests := true, laidLooks := .later }
def PrintPartsUptoCardSaid : Prop := Claim7.holds Tryz.pinned (.plain (OpenSpec.upto printPartsSpec)) printPartsUptoCard

/-- THE SECOND FORM's CARD OF 'proteanlaw03.PrintLines'. -/
def printLinesUptoCard : Claim7 := { stood := { row := printLinesUptoRow, standIns := [], harness := (true, "792894569bea1ddca75a193a31a2eba47b70e496faeef7820506a74949014cb7"), looks := true }, kinds := [], alts := [], laidByText := true, laidKinds := [.data, .data, .data, .sentinel, .sentinel], laidTests := true, laidLooks := .later }
def PrintLinesUptoCardSaid : Prop := Claim7.holds Tryz.pinned (.plain (OpenSpec.upto printLinesSpec)) printLinesUptoCard
end Rows
end Go.Proofs.YtghhkbigmmjanaaGreatDoor
