/-
  DERIVED. GIVEN WITH THE SEED: THE CARDS: each row of YtdaibboenkgpaaaGreatDoorRows.lean that lists a variable, with what it lists TIED to the program's text (the seventh form; the later family's looks); each row that meets fmt, with fmt's text TOLD by the authors' own Lean function (tested against real Go, not proved from fmt's source: count such statements apart). THE CARD IS WHAT COUNTS. Prove the row's statement (the work); the ties are given (YtdaibboenkgpaaaGreatDoorTie.lean); close each card by the builder's one call (the guide's Derived/Test/ToyasCard.lean, 'card_holds'). Laid BY PROGRAM, IN A SANDBOX (cutbox-door.mjs). By AI agents, Wed Nov 11 2026. No macro, syntax, notation, axiom, sorry.
-/
import Derived.Test.YtdaibboenkgpaaaGreatDoorRows
import GoSem.ClaimSeven
namespace Go.Proofs.YtdaibboenkgpaaaGreatDoor
namespace Rows

/-- THE TIED CARD OF 'flagstonelaw14.TrafficSteps'. -/
def trafficStepsCard : Claim7 := { stood := { row := trafficStepsRow, standIns := [], harness := (true, "3673bc5862e2c5ccd506c4b81685376991b48424c20dfeee44cc278d280435ac"), looks := false }, kinds := [], alts := [], laidByText := true, laidKinds := [.data, .data, .data, .widerDeep, .pinned], laidTests := true, laidLooks := .later }
def TrafficStepsCardSaid : Prop := Claim7.holds Tryz.pinned (.plain (OpenSpec.ofChange trafficStepsSpec)) trafficStepsCard

/-- THE SECOND FORM's CARD OF 'flagstonelaw14.TrafficSteps'. -/
def trafficStepsUptoCard : Claim7 := { stood := { row := trafficStepsUptoRow, standIns := [], harness := (true, "3673bc5862e2c5ccd506c4b81685376991b48424c20dfeee44cc278d280435ac"), looks := false }, kinds := [], alts := [], laidByText := true, laidKinds := [.data, .data, .data, .widerDeep, .pinned], laidTests := true, laidLooks := .later }
def TrafficStepsUptoCardSaid : Prop := Claim7.holds Tryz.pinned (.plain (OpenSpec.upto trafficStepsSpec)) trafficStepsUptoCard
end Rows
end Go.Proofs.YtdaibboenkgpaaaGreatDoor
