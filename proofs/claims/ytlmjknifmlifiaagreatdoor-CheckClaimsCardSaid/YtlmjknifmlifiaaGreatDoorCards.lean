/-
  DERIVED. GIVEN WITH THE SEED: THE CARDS: each row of YtlmjknifmlifiaaGreatDoorRows.lean that lists a variable, with what it lists TIED to the program's text (the seventh form; the later family's looks); each row that meets fmt, with fmt's text TOLD by the authors' own Lean function (tested against real Go, not proved from fmt's source: count such statements apart). THE CARD IS WHAT COUNTS. Prove the row's statement (the work); the ties are given (YtlmjknifmlifiaaGreatDoorTie.lean); close each card by the builder's one call (the guide's Derived/Test/ToyasCard.lean, 'card_holds'). Laid BY PROGRAM, IN A SANDBOX (cutbox-door.mjs). By AI agents, Wed Nov 11 2026. No macro, syntax, notation, axiom, sorry.
-/
import Derived.Test.YtlmjknifmlifiaaGreatDoorRows
import GoSem.ClaimSeven
namespace Go.Proofs.YtlmjknifmlifiaaGreatDoor
namespace Rows

/-- THE TIED CARD OF 'flagstonelaw18.CheckUnreachable'. -/
def checkUnreachableCard : Claim7 := { stood := { row := checkUnreachableRow, standIns := [], harness := (true, "9a50f42f18b06fbbe66ca1ca285e01ca0d2bb19f8bee73ec75b7ab9bde647aa6"), looks := true }, kinds := [], alts := [], laidByText := true, laidKinds := [.data, .data, .data, .data, .data, .data, .widerDeep, .sentinel, .sentinel, .listed, .data, .pinned], laidTests := true, laidLooks := .later }
def CheckUnreachableCardSaid : Prop := Claim7.holds Tryz.pinned (.plain (OpenSpec.ofChange checkUnreachableSpec)) checkUnreachableCard

/-- THE TIED CARD OF 'flagstonelaw18.CheckWitness'. -/
def checkWitnessCard : Claim7 := { stood := { row := checkWitnessRow, standIns := [], harness := (true, "9a50f42f18b06fbbe66ca1ca285e01ca0d2bb19f8bee73ec75b7ab9bde647aa6"), looks := true }, kinds := [], alts := [], laidByText := true, laidKinds := [.data, .data, .data, .data, .data, .data, .widerDeep, .sentinel, .sentinel, .listed, .data, .pinned], laidTests := true, laidLooks := .later }
def CheckWitnessCardSaid : Prop := Claim7.holds Tryz.pinned (.plain (OpenSpec.ofChange checkWitnessSpec)) checkWitnessCard

/-- THE TIED CARD OF 'flagstonelaw18.CheckClaims'. -/
def checkClaimsCard : Claim7 := { stood := { row := checkClaimsRow, standIns := [], harness := (true, "9a50f42f18b06fbbe66ca1ca285e01ca0d2bb19f8bee73ec75b7ab9bde647aa6"), looks := true }, kinds := [], alts := [], laidByText := true, laidKinds := [.data, .data, .data, .data, .data, .data, .widerDeep, .sentinel, .sentinel, .listed, .data, .pinned], laidTests := true, laidLooks := .later }
def CheckClaimsCardSaid : Prop := Claim7.holds Tryz.pinned (.plain (OpenSpec.ofChange checkClaimsSpec)) checkClaimsCard

/-- THE TIED CARD OF 'flagstonelaw18.CheckConditions'. -/
def checkConditionsCard : Claim7 := { stood := { row := checkConditionsRow, standIns := [], harness := (true, "9a50f42f18b06fbbe66ca1ca285e01ca0d2bb19f8bee73ec75b7ab9bde647aa6"), looks := true }, kinds := [], alts := [], laidByText := true, laidKinds := [.data, .data, .data, .data, .data, .data, .widerDeep, .sentinel, .sentinel, .listed, .data, .pinned], laidTests := true, laidLooks := .later }
def CheckConditionsCardSaid : Prop := Claim7.holds Tryz.pinned (.plain (OpenSpec.ofChange checkConditionsSpec)) checkConditionsCard

/-- THE SECOND FORM's CARD OF 'flagstonelaw18.CheckUnreachable'. -/
def checkUnreachableUptoCard : Claim7 := { stood := { row := checkUnreachableUptoRow, standIns := [], harness := (true, "9a50f42f18b06fbbe66ca1ca285e01ca0d2bb19f8bee73ec75b7ab9bde647aa6"), looks := true }, kinds := [], alts := [], laidByText := true, laidKinds := [.data, .data, .data, .data, .data, .data, .widerDeep, .sentinel, .sentinel, .listed, .data, .pinned], laidTests := true, laidLooks := .later }
def CheckUnreachableUptoCardSaid : Prop := Claim7.holds Tryz.pinned (.plain (OpenSpec.upto checkUnreachableSpec)) checkUnreachableUptoCard

/-- THE SECOND FORM's CARD OF 'flagstonelaw18.CheckWitness'. -/
def checkWitnessUptoCard : Claim7 := { stood := { row := checkWitnessUptoRow, standIns := [], harness := (true, "9a50f42f18b06fbbe66ca1ca285e01ca0d2bb19f8bee73ec75b7ab9bde647aa6"), looks := true }, kinds := [], alts := [], laidByText := true, laidKinds := [.data, .data, .data, .data, .data, .data, .widerDeep, .sentinel, .sentinel, .listed, .data, .pinned], laidTests := true, laidLooks := .later }
def CheckWitnessUptoCardSaid : Prop := Claim7.holds Tryz.pinned (.plain (OpenSpec.upto checkWitnessSpec)) checkWitnessUptoCard

/-- THE SECOND FORM's CARD OF 'flagstonelaw18.CheckClaims'. -/
def checkClaimsUptoCard : Claim7 := { stood := { row := checkClaimsUptoRow, standIns := [], harness := (true, "9a50f42f18b06fbbe66ca1ca285e01ca0d2bb19f8bee73ec75b7ab9bde647aa6"), looks := true }, kinds := [], alts := [], laidByText := true, laidKinds := [.data, .data, .data, .data, .data, .data, .widerDeep, .sentinel, .sentinel, .listed, .data, .pinned], laidTests := true, laidLooks := .later }
def CheckClaimsUptoCardSaid : Prop := Claim7.holds Tryz.pinned (.plain (OpenSpec.upto checkClaimsSpec)) checkClaimsUptoCard

/-- THE SECOND FORM's CARD OF 'flagstonelaw18.CheckConditions'. -/
def checkConditionsUptoCard : Claim7 := { stood := { row := checkConditionsUptoRow, standIns := [], harness := (true, "9a50f42f18b06fbbe66ca1ca285e01ca0d2bb19f8bee73ec75b7ab9bde647aa6"), looks := true }, kinds := [], alts := [], laidByText := true, laidKinds := [.data, .data, .data, .data, .data, .data, .widerDeep, .sentinel, .sentinel, .listed, .data, .pinned], laidTests := true, laidLooks := .later }
def CheckConditionsUptoCardSaid : Prop := Claim7.holds Tryz.pinned (.plain (OpenSpec.upto checkConditionsSpec)) checkConditionsUptoCard
end Rows
end Go.Proofs.YtlmjknifmlifiaaGreatDoor
