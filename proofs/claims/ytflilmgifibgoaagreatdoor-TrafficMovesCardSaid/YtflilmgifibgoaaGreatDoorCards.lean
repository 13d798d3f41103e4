/-
  DERIVED. GIVEN WITH THE SEED: THE CARDS: each row of YtflilmgifibgoaaGreatDoorRows.lean that lists a variable, with what it lists TIED to the program's text (the seventh form; the later family's looks); each row that meets fmt, with fmt's text TOLD by the authors' own Lean function (tested against real Go, not proved from fmt's source: count such statements apart). THE CARD IS WHAT COUNTS. Prove the row's statement (the work); the ties are given (YtflilmgifibgoaaGreatDoorTie.lean); close each card by the builder's one call (the guide's Derived/Test/ToyasCard.lean, 'card_holds'). Laid BY PROGRAM, IN A SANDBOX (cutbox-door.mjs). By AI agents, Wed Nov 11 2026. No macro, syntax, notation, axiom, sorry.
-/
import Derived.Test.YtflilmgifibgoaaGreatDoorRows
import GoSem.ClaimSeven
namespace Go.Proofs.YtflilmgifibgoaaGreatDoor
namespace Rows

/-- THE TIED CARD OF 'flagstonelaw14.TrafficSteps'. -/
def trafficStepsCard : Claim7 := { stood := { row := trafficStepsRow, standIns := [], harness := (true, "f6f93bb0f764dfb90a4512363f946699f3a29823762ec3797b0ba63ff7171464"), looks := false }, kinds := [], alts := [], laidByText := true, laidKinds := [.data, .data, .data, .widerDeep, .pinned], laidTests := true, laidLooks := .later }
def TrafficStepsCardSaid : Prop := Claim7.holds Tryz.pinned (.plain (OpenSpec.ofChange trafficStepsSpec)) trafficStepsCard

/-- THE TIED CARD OF 'flagstonelaw14.TrafficCools'. -/
def trafficCoolsCard : Claim7 := { stood := { row := trafficCoolsRow, standIns := [], harness := (true, "f6f93bb0f764dfb90a4512363f946699f3a29823762ec3797b0ba63ff7171464"), looks := false }, kinds := [], alts := [], laidByText := true, laidKinds := [.data, .data, .data, .widerDeep, .pinned], laidTests := true, laidLooks := .later }
def TrafficCoolsCardSaid : Prop := Claim7.holds Tryz.pinned (.plain (OpenSpec.ofChange trafficCoolsSpec)) trafficCoolsCard

/-- THE TIED CARD OF 'flagstonelaw14.TrafficActs'. -/
def trafficActsCard : Claim7 := { stood := { row := trafficActsRow, standIns := [], harness := (true, "f6f93bb0f764dfb90a4512363f946699f3a29823762ec3797b0ba63ff7171464"), looks := false }, kinds := [], alts := [], laidByText := true, laidKinds := [.data, .data, .data, .widerDeep, .pinned], laidTests := true, laidLooks := .later }
def TrafficActsCardSaid : Prop := Claim7.holds Tryz.pinned (.plain (OpenSpec.ofChange trafficActsSpec)) trafficActsCard

/-- THE TIED CARD OF 'flagstonelaw14.TrafficMoves'. -/
def trafficMovesCard : Claim7 := { stood := { row := trafficMovesRow, standIns := [], harness := (true, "f6f93bb0f764dfb90a4512363f946699f3a29823762ec3797b0ba63ff7171464"), looks := false }, kinds := [], alts := [], laidByText := true, laidKinds := [.data, .data, .data, .widerDeep, .pinned], laidTests := true, laidLooks := .later }
def TrafficMovesCardSaid : Prop := Claim7.holds Tryz.pinned (.plain (OpenSpec.ofChange trafficMovesSpec)) trafficMovesCard

/-- THE SECOND FORM's CARD OF 'flagstonelaw14.TrafficSteps'. -/
def trafficStepsUptoCard : Claim7 := { stood := { row := trafficStepsUptoRow, standIns := [], harness := (true, "f6f93bb0f764dfb90a4512363f946699f3a29823762ec3797b0ba63ff7171464"), looks := false }, kinds := [], alts := [], laidByText := true, laidKinds := [.data, .data, .data, .widerDeep, .pinned], laidTests := true, laidLooks := .later }
def TrafficStepsUptoCardSaid : Prop := Claim7.holds Tryz.pinned (.plain (OpenSpec.upto trafficStepsSpec)) trafficStepsUptoCard

/-- THE SECOND FORM's CARD OF 'flagstonelaw14.TrafficCools'. -/
def trafficCoolsUptoCard : Claim7 := { stood := { row := trafficCoolsUptoRow, standIns := [], harness := (true, "f6f93bb0f764dfb90a4512363f946699f3a29823762ec3797b0ba63ff7171464"), looks := false }, kinds := [], alts := [], laidByText := true, laidKinds := [.data, .data, .data, .widerDeep, .pinned], laidTests := true, laidLooks := .later }
def TrafficCoolsUptoCardSaid : Prop := Claim7.holds Tryz.pinned (.plain (OpenSpec.upto trafficCoolsSpec)) trafficCoolsUptoCard

/-- THE SECOND FORM's CARD OF 'flagstonelaw14.TrafficActs'. -/
def trafficActsUptoCard : Claim7 := { stood := { row := trafficActsUptoRow, standIns := [], harness := (true, "f6f93bb0f764dfb90a4512363f946699f3a29823762ec3797b0ba63ff7171464"), looks := false }, kinds := [], alts := [], laidByText := true, laidKinds := [.data, .data, .data, .widerDeep, .pinned], laidTests := true, laidLooks := .later }
def TrafficActsUptoCardSaid : Prop := Claim7.holds Tryz.pinned (.plain (OpenSpec.upto trafficActsSpec)) trafficActsUptoCard

/-- THE SECOND FORM's CARD OF 'flagstonelaw14.TrafficMoves'. -/
def trafficMovesUptoCard : Claim7 := { stood := { row := trafficMovesUptoRow, standIns := [], harness := (true, "f6f93bb0f764dfb90a4512363f946699f3a29823762ec3797b0ba63ff7171464"), looks := false }, kinds := [], alts := [], laidByText := true, laidKinds := [.data, .data, .data, .widerDeep, .pinned], laidTests := true, laidLooks := .later }
def TrafficMovesUptoCardSaid : Prop := Claim7.holds Tryz.pinned (.plain (OpenSpec.upto trafficMovesSpec)) trafficMovesUptoCard
end Rows
end Go.Proofs.YtflilmgifibgoaaGreatDoor
