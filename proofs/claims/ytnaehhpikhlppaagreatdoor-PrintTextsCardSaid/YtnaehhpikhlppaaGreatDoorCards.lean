/-
  DERIVED. GIVEN WITH THE SEED: THE CARDS: each row of YtnaehhpikhlppaaGreatDoorRows.lean that lists a variable, with what it lists TIED to the program's text (the seventh form; the later family's looks); each row that meets fmt, with fmt's text TOLD by the authors' own Lean function (tested against real Go, not proved from fmt's source: count such statements apart). THE CARD IS WHAT COUNTS. Prove the row's statement (the work); the ties are given (YtnaehhpikhlppaaGreatDoorTie.lean); close each card by the builder's one call (the guide's Derived/Test/ToyasCard.lean, 'card_holds'). Laid BY PROGRAM, IN A SANDBOX (cutbox-door.mjs). By AI agents, Wed Nov 11 2026. No macro, syntax, notation, axiom, sorry.
-/
import Derived.Test.YtnaehhpikhlppaaGreatDoorRows
import GoSem.ClaimSeven
namespace Go.Proofs.YtnaehhpikhlppaaGreatDoor
namespace Rows

/-- THE TIED CARD OF 'catchmentlaw13.PrintTexts'. -/
def printTextsCard : Claim7 := { stood := { row := printTextsRow, standIns := [], harness := (true, "046d2a3c1102cc9f8bd15edbca7c9c1c3f76a308c4cb538552baf04949108d08"), looks := true }, kinds := [], alts := [], laidByText := true, laidKinds := [.data, .data, .data, .data, .sentinel, .sentinel, .data, .data, .data, .pinned], laidTests := true, laidLooks := .later }
def PrintTextsCardSaid : Prop := Claim7.holds Tryz.pinned (.plain (OpenSpec.ofChange printTextsSpec)) printTextsCard

/-- THE TIED CARD OF 'catchmentlaw13.PrintConds'. -/
def printCondsCard : Claim7 := { stood := { row := printCondsRow, standIns := [], harness := (true, "046d2a3c1102cc9f8bd15edbca7c9c1c3f76a308c4cb538552baf04949108d08"), looks := true }, kinds := [], alts := [], laidByText := true, laidKinds := [.data, .data, .data, .data, .sentinel, .sentinel, .data, .data, .data, .pinned], laidTests := true, laidLooks := .later }
def PrintCondsCardSaid : Prop := Claim7.holds Tryz.pinned (.plain (OpenSpec.ofChange printCondsSpec)) printCondsCard

/-- THE TIED CARD OF 'catchmentlaw14.CheckTables'. -/
def checkTablesCard : Claim7 := { stood := { row := checkTablesRow, standIns := [], harness := (true, "046d2a3c1102cc9f8bd15edbca7c9c1c3f76a308c4cb538552baf04949108d08"), looks := true }, kinds := [], alts := [], laidByText := true, laidKinds := [.data, .data, .data, .data, .sentinel, .sentinel, .data, .data, .data, .pinned], laidTests := true, laidLooks := .later }
def CheckTablesCardSaid : Prop := Claim7.holds Tryz.pinned (.plain (OpenSpec.ofChange checkTablesSpec)) checkTablesCard

/-- THE TIED CARD OF 'catchmentlaw14.CheckSame'. -/
def checkSameCard : Claim7 := { stood := { row := checkSameRow, standIns := [], harness := (true, "046d2a3c1102cc9f8bd15edbca7c9c1c3f76a308c4cb538552baf04949108d08"), looks := true }, kinds := [], alts := [], laidByText := true, laidKinds := [.data, .data, .data, .data, .sentinel, .sentinel, .data, .data, .data, .pinned], laidTests := true, laidLooks := .later }
def CheckSameCardSaid : Prop := Claim7.holds Tryz.pinned (.plain (OpenSpec.ofChange checkSameSpec)) checkSameCard

/-- THE SECOND FORM's CARD OF 'catchmentlaw13.PrintTexts'. -/
def printTextsUptoCard : Claim7 := { stood := { row := printTextsUptoRow, standIns := [], harness := (true, "046d2a3c1102cc9f8bd15edbca7c9c1c3f76a308c4cb538552baf04949108d08"), looks := true }, kinds := [], alts := [], laidByText := true, laidKinds := [.data, .data, .data, .data, .sentinel, .sentinel, .data, .data, .data, .pinned], laidTests := true, laidLooks := .later }
def PrintTextsUptoCardSaid : Prop := Claim7.holds Tryz.pinned (.plain (OpenSpec.upto printTextsSpec)) printTextsUptoCard

/-- THE SECOND FORM's CARD OF 'catchmentlaw13.PrintConds'. -/
def printCondsUptoCard : Claim7 := { stood := { row := printCondsUptoRow, standIns := [], harness := (true, "046d2a3c1102cc9f8bd15edbca7c9c1c3f76a308c4cb538552baf04949108d08"), looks := true }, kinds := [], alts := [], laidByText := true, laidKinds := [.data, .data, .data, .data, .sentinel, .sentinel, .data, .data, .data, .pinned], laidTests := true, laidLooks := .later }
def PrintCondsUptoCardSaid : Prop := Claim7.holds Tryz.pinned (.plain (OpenSpec.upto printCondsSpec)) printCondsUptoCard

/-- THE SECOND FORM's CARD OF 'catchmentlaw14.CheckTables'. -/
def checkTablesUptoCard : Claim7 := { stood := { row := checkTablesUptoRow, standIns := [], harness := (true, "046d2a3c1102cc9f8bd15edbca7c9c1c3f76a308c4cb538552baf04949108d08"), looks := true }, kinds := [], alts := [], laidByText := true, laidKinds := [.data, .data, .data, .data, .sentinel, .sentinel, .data, .data, .data, .pinned], laidTests := true, laidLooks := .later }
def CheckTablesUptoCardSaid : Prop := Claim7.holds Tryz.pinned (.plain (OpenSpec.upto checkTablesSpec)) checkTablesUptoCard

/-- THE SECOND FORM's CARD OF 'catchmentlaw14.CheckSame'. -/
def checkSameUptoCard : Claim7 := { stood := { row := checkSameUptoRow, standIns := [], harness := (true, "046d2a3c1102cc9f8bd15edbca7c9c1c3f76a308c4cb538552baf04949108d08"), looks := true }, kinds := [], alts := [], laidByText := true, laidKinds := [.data, .data, .data, .data, .sentinel, .sentinel, .data, .data, .data, .pinned], laidTests := true, laidLooks := .later }
def CheckSameUptoCardSaid : Prop := Claim7.holds Tryz.pinned (.plain (OpenSpec.upto checkSameSpec)) checkSameUptoCard
end Rows
end Go.Proofs.YtnaehhpikhlppaaGreatDoor
