/-
  DERIVED. GIVEN WITH THE SEED: THE CARDS: each row of YtfiomedjdipbgaaGreatDoorRows.lean that lists a variable, with what it lists TIED to the program's text (the seventh form; the later family's looks); each row that meets fmt, with fmt's text TOLD by the authors' own Lean function (tested against real Go, not proved from fmt's source: count such statements apart). THE CARD IS WHAT COUNTS. Prove the row's statement (the work); the ties are given (YtfiomedjdipbgaaGreatDoorTie.lean); close each card by the builder's one call (the guide's Derived/Test/ToyasCard.lean, 'card_holds'). Laid BY PROGRAM, IN A SANDBOX (cutbox-door.mjs). By AI agents, Wed Nov 11 2026. No macro, syntax, notation, axiom, sorry.
-/
import Derived.Test.YtfiomedjdipbgaaGreatDoorRows
import GoSem.ClaimSeven
namespace Go.Proofs.YtfiomedjdipbgaaGreatDoor
namespace Rows

/-- THE TIED CARD OF 'flagstonelaw15.AssignLayers'. -/
def assignLayersCard : Claim7 := { stood := { row := assignLayersRow, standIns := [], harness := (true, "428de288abd165891a3314c5ea8418ea54ab1f67bbedb1cda7779a648dae6d22"), looks := true }, kinds := [], alts := [], laidByText := true, laidKinds := [.data, .data, .data, .data, .data, .data, .widerDeep, .sentinel, .sentinel, .pinned], laidTests := true, laidLooks := .later }
def AssignLayersCardSaid : Prop := Claim7.holds Tryz.pinned (.plain (OpenSpec.ofChange assignLayersSpec)) assignLayersCard

/-- THE TIED CARD OF 'flagstonelaw15.AssignQuestions'. -/
def assignQuestionsCard : Claim7 := { stood := { row := assignQuestionsRow, standIns := [], harness := (true, "428de288abd165891a3314c5ea8418ea54ab1f67bbedb1cda7779a648dae6d22"), looks := true }, kinds := [], alts := [], laidByText := true, laidKinds := [.data, .data, .data, .data, .data, .data, .widerDeep, .sentinel, .sentinel, .pinned], laidTests := true, laidLooks := .later }
def AssignQuestionsCardSaid : Prop := Claim7.holds Tryz.pinned (.plain (OpenSpec.ofChange assignQuestionsSpec)) assignQuestionsCard

/-- THE TIED CARD OF 'flagstonelaw15.AssignOnce'. -/
def assignOnceCard : Claim7 := { stood := { row := assignOnceRow, standIns := [], harness := (true, "428de288abd165891a3314c5ea8418ea54ab1f67bbedb1cda7779a648dae6d22"), looks := true }, kinds := [], alts := [], laidByText := true, laidKinds := [.data, .data, .data, .data, .data, .data, .widerDeep, .sentinel, .sentinel, .pinned], laidTests := true, laidLooks := .later }
def AssignOnceCardSaid : Prop := Claim7.holds Tryz.pinned (.plain (OpenSpec.ofChange assignOnceSpec)) assignOnceCard

/-- THE TIED CARD OF 'flagstonelaw15.AssignGrows'. -/
def assignGrowsCard : Claim7 := { stood := { row := assignGrowsRow, standIns := [], harness := (true, "428de288abd165891a3314c5ea8418ea54ab1f67bbedb1cda7779a648dae6d22"), looks := true }, kinds := [], alts := [], laidByText := true, laidKinds := [.data, .data, .data, .data, .data, .data, .widerDeep, .sentinel, .sentinel, .pinned], laidTests := true, laidLooks := .later }
def AssignGrowsCardSaid : Prop := Claim7.holds Tryz.pinned (.plain (OpenSpec.ofChange assignGrowsSpec)) assignGrowsCard

/-- THE TIED CARD OF 'flagstonelaw15.AssignStays'. -/
def assignStaysCard : Claim7 := { stood := { row := assignStaysRow, standIns := [], harness := (true, "428de288abd165891a3314c5ea8418ea54ab1f67bbedb1cda7779a648dae6d22"), looks := true }, kinds := [], alts := [], laidByText := true, laidKinds := [.data, .data, .data, .data, .data, .data, .widerDeep, .sentinel, .sentinel, .pinned], laidTests := true, laidLooks := .later }
def AssignStaysCardSaid : Prop := Claim7.holds Tryz.pinned (.plain (OpenSpec.ofChange assignStaysSpec)) assignStaysCard

/-- THE TIED CARD OF 'flagstonelaw15.AssignSalts'. -/
def assignSaltsCard : Claim7 := { stood := { row := assignSaltsRow, standIns := [], harness := (true, "428de288abd165891a3314c5ea8418ea54ab1f67bbedb1cda7779a648dae6d22"), looks := true }, kinds := [], alts := [], laidByText := true, laidKinds := [.data, .data, .data, .data, .data, .data, .widerDeep, .sentinel, .sentinel, .pinned], laidTests := true, laidLooks := .later }
def AssignSaltsCardSaid : Prop := Claim7.holds Tryz.pinned (.plain (OpenSpec.ofChange assignSaltsSpec)) assignSaltsCard

/-- THE SECOND FORM's CARD OF 'flagstonelaw15.AssignLayers'. -/
def assignLayersUptoCard : Claim7 := { stood := { row := assignLayersUptoRow, standIns := [], harness := (true, "428de288abd165891a3314c5ea8418ea54ab1f67bbedb1cda7779a648dae6d22"), looks := true }, kinds := [], alts := [], laidByText := true, laidKinds := [.data, .data, .data, .data, .data, .data, .widerDeep, .sentinel, .sentinel, .pinned], laidTests := true, laidLooks := .later }
def AssignLayersUptoCardSaid : Prop := Claim7.holds Tryz.pinned (.plain (OpenSpec.upto assignLayersSpec)) assignLayersUptoCard

/-- THE SECOND FORM's CARD OF 'flagstonelaw15.AssignQuestions'. -/
def assignQuestionsUptoCard : Claim7 := { stood := { row := assignQuestionsUptoRow, standIns := [], harness := (true, "428de288abd165891a3314c5ea8418ea54ab1f67bbedb1cda7779a648dae6d22"), looks := true }, kinds := [], alts := [], laidByText := true, laidKinds := [.data, .data, .data, .data, .data, .data, .widerDeep, .sentinel, .sentinel, .pinned], laidTests := true, laidLooks := .later }
def AssignQuestionsUptoCardSaid : Prop := Claim7.holds Tryz.pinned (.plain (OpenSpec.upto assignQuestionsSpec)) assignQuestionsUptoCard

/-- THE SECOND FORM's CARD OF 'flagstonelaw15.AssignOnce'. -/
def assignOnceUptoCard : Claim7 := { stood := { row := assignOnceUptoRow, standIns := [], harness := (true, "428de288abd165891a3314c5ea8418ea54ab1f67bbedb1cda7779a648dae6d22"), looks := true }, kinds := [], alts := [], laidByText := true, laidKinds := [.data, .data, .data, .data, .data, .data, .widerDeep, .sentinel, .sentinel, .pinned], laidTests := true, laidLooks := .later }
def AssignOnceUptoCardSaid : Prop := Claim7.holds Tryz.pinned (.plain (OpenSpec.upto assignOnceSpec)) assignOnceUptoCard

/-- THE SECOND FORM's CARD OF 'flagstonelaw15.AssignGrows'. -/
def assignGrowsUptoCard : Claim7 := { stood := { row := assignGrowsUptoRow, standIns := [], harness := (true, "428de288abd165891a3314c5ea8418ea54ab1f67bbedb1cda7779a648dae6d22"), looks := true }, kinds := [], alts := [], laidByText := true, laidKinds := [.data, .data, .data, .data, .data, .data, .widerDeep, .sentinel, .sentinel, .pinned], laidTests := true, laidLooks := .later }
def AssignGrowsUptoCardSaid : Prop := Claim7.holds Tryz.pinned (.plain (OpenSpec.upto assignGrowsSpec)) assignGrowsUptoCard

/-- THE SECOND FORM's CARD OF 'flagstonelaw15.AssignStays'. -/
def assignStaysUptoCard : Claim7 := { stood := { row := assignStaysUptoRow, standIns := [], harness := (true, "428de288abd165891a3314c5ea8418ea54ab1f67bbedb1cda7779a648dae6d22"), looks := true }, kinds := [], alts := [], laidByText := true, laidKinds := [.data, .data, .data, .data, .data, .data, .widerDeep, .sentinel, .sentinel, .pinned], laidTests := true, laidLooks := .later }
def AssignStaysUptoCardSaid : Prop := Claim7.holds Tryz.pinned (.plain (OpenSpec.upto assignStaysSpec)) assignStaysUptoCard

/-- THE SECOND FORM's CARD OF 'flagstonelaw15.AssignSalts'. -/
def assignSaltsUptoCard : Claim7 := { stood := { row := assignSaltsUptoRow, standIns := [], harness := (true, "428de288abd165891a3314c5ea8418ea54ab1f67bbedb1cda7779a648dae6d22"), looks := true }, kinds := [], alts := [], laidByText := true, laidKinds := [.data, .data, .data, .data, .data, .data, .widerDeep, .sentinel, .sentinel, .pinned], laidTests := true, laidLooks := .later }
def AssignSaltsUptoCardSaid : Prop := Claim7.holds Tryz.pinned (.plain (OpenSpec.upto assignSaltsSpec)) assignSaltsUptoCard
end Rows
end Go.Proofs.YtfiomedjdipbgaaGreatDoor
