/-
  DERIVED. GIVEN WITH THE SEED: THE CARDS: each row of YtjepffgpbidclaaGreatDoorRows.lean that lists a variable, with what it lists TIED to the program's text (the seventh form; the later family's looks); each row that meets fmt, with fmt's text TOLD by the authors' own Lean function (tested against real Go, not proved from fmt's source: count such statements apart). THE CARD IS WHAT COUNTS. Prove the row's statement (the work); the ties are given (YtjepffgpbidclaaGreatDoorTie.lean); close each card by the builder's one call (the guide's Derived/Test/ToyasCard.lean, 'card_holds'). Laid BY PROGRAM, IN A SANDBOX (cutbox-door.mjs). By AI agents, Wed Nov 11 2026. No macro, syntax, notation, axiom, sorry.
-/
import Derived.Test.YtjepffgpbidclaaGreatDoorRows
import GoSem.ClaimSeven
namespace Go.Proofs.YtjepffgpbidclaaGreatDoor
namespace Rows

/-- THE TIED CARD OF 'flagstonelaw44.AuditAny'. -/
def auditAnyCard : Claim7 := { stood := { row := auditAnyRow, standIns := [], harness := (true, "e98c3997ab0547de82b7c527f205b0c0a10fc56b5d5d6c4b98cb247f7f5cff8c"), looks := true }, kinds := [], alts := [], laidByText := true, laidKinds := [.data, .data, .data, .data, .sentinel, .sentinel, .listed, .data, .pinned], laidTests := true, laidLooks := .later }
def AuditAnyCardSaid : Prop := Claim7.holds Tryz.pinned (.plain (OpenSpec.ofChange auditAnySpec)) auditAnyCard

/-- THE TIED CARD OF 'flagstonelaw44.AuditSpoilt'. -/
def auditSpoiltCard : Claim7 := { stood := { row := auditSpoiltRow, standIns := [], harness := (true, "e98c3997ab0547de82b7c527f205b0c0a10fc56b5d5d6c4b98cb247f7f5cff8c"), looks := true }, kinds := [], alts := [], laidByText := true, laidKinds := [.data, .data, .data, .data, .sentinel, .sentinel, .listed, .data, .pinned], laidTests := true, laidLooks := .later }
def AuditSpoiltCardSaid : Prop := Claim7.holds Tryz.pinned (.plain (OpenSpec.ofChange auditSpoiltSpec)) auditSpoiltCard

/-- THE TIED CARD OF 'flagstonelaw44.AuditAccepts'. -/
def auditAcceptsCard : Claim7 := { stood := { row := auditAcceptsRow, standIns := [], harness := (true, "e98c3997ab0547de82b7c527f205b0c0a10fc56b5d5d6c4b98cb247f7f5cff8c"), looks := true }, kinds := [], alts := [], laidByText := true, laidKinds := [.data, .data, .data, .data, .sentinel, .sentinel, .listed, .data, .pinned], laidTests := true, laidLooks := .later }
def AuditAcceptsCardSaid : Prop := Claim7.holds Tryz.pinned (.plain (OpenSpec.ofChange auditAcceptsSpec)) auditAcceptsCard

/-- THE TIED CARD OF 'flagstonelaw44.AuditRefuses'. -/
def auditRefusesCard : Claim7 := { stood := { row := auditRefusesRow, standIns := [], harness := (true, "e98c3997ab0547de82b7c527f205b0c0a10fc56b5d5d6c4b98cb247f7f5cff8c"), looks := true }, kinds := [], alts := [], laidByText := true, laidKinds := [.data, .data, .data, .data, .sentinel, .sentinel, .listed, .data, .pinned], laidTests := true, laidLooks := .later }
def AuditRefusesCardSaid : Prop := Claim7.holds Tryz.pinned (.plain (OpenSpec.ofChange auditRefusesSpec)) auditRefusesCard

/-- THE TIED CARD OF 'flagstonelaw44.AuditTells'. -/
def auditTellsCard : Claim7 := { stood := { row := auditTellsRow, standIns := [], harness := (true, "e98c3997ab0547de82b7c527f205b0c0a10fc56b5d5d6c4b98cb247f7f5cff8c"), looks := true }, kinds := [], alts := [], laidByText := true, laidKinds := [.data, .data, .data, .data, .sentinel, .sentinel, .listed, .data, .pinned], laidTests := true, laidLooks := .later }
def AuditTellsCardSaid : Prop := Claim7.holds Tryz.pinned (.plain (OpenSpec.ofChange auditTellsSpec)) auditTellsCard

/-- THE TIED CARD OF 'flagstonelaw44.AuditStays'. -/
def auditStaysCard : Claim7 := { stood := { row := auditStaysRow, standIns := [], harness := (true, "e98c3997ab0547de82b7c527f205b0c0a10fc56b5d5d6c4b98cb247f7f5cff8c"), looks := true }, kinds := [], alts := [], laidByText := true, laidKinds := [.data, .data, .data, .data, .sentinel, .sentinel, .listed, .data, .pinned], laidTests := true, laidLooks := .later }
def AuditStaysCardSaid : Prop := Claim7.holds Tryz.pinned (.plain (OpenSpec.ofChange auditStaysSpec)) auditStaysCard

/-- THE SECOND FORM's CARD OF 'flagstonelaw44.AuditAny'. -/
def auditAnyUptoCard : Claim7 := { stood := { row := auditAnyUptoRow, standIns := [], harness := (true, "e98c3997ab0547de82b7c527f205b0c0a10fc56b5d5d6c4b98cb247f7f5cff8c"), looks := true }, kinds := [], alts := [], laidByText := true, laidKinds := [.data, .data, .data, .data, .sentinel, .sentinel, .listed, .data, .pinned], laidTests := true, laidLooks := .later }
def AuditAnyUptoCardSaid : Prop := Claim7.holds Tryz.pinned (.plain (OpenSpec.upto auditAnySpec)) auditAnyUptoCard

/-- THE SECOND FORM's CARD OF 'flagstonelaw44.AuditSpoilt'. -/
def auditSpoiltUptoCard : Claim7 := { stood := { row := auditSpoiltUptoRow, standIns := [], harness := (true, "e98c3997ab0547de82b7c527f205b0c0a10fc56b5d5d6c4b98cb247f7f5cff8c"), looks := true }, kinds := [], alts := [], laidByText := true, laidKinds := [.data, .data, .data, .data, .sentinel, .sentinel, .listed, .data, .pinned], laidTests := true, laidLooks := .later }
def AuditSpoiltUptoCardSaid : Prop := Claim7.holds Tryz.pinned (.plain (OpenSpec.upto auditSpoiltSpec)) auditSpoiltUptoCard

/-- THE SECOND FORM's CARD OF 'flagstonelaw44.AuditAccepts'. -/
def auditAcceptsUptoCard : Claim7 := { stood := { row := auditAcceptsUptoRow, standIns := [], harness := (true, "e98c3997ab0547de82b7c527f205b0c0a10fc56b5d5d6c4b98cb247f7f5cff8c"), looks := true }, kinds := [], alts := [], laidByText := true, laidKinds := [.data, .data, .data, .data, .sentinel, .sentinel, .listed, .data, .pinned], laidTests := true, laidLooks := .later }
def AuditAcceptsUptoCardSaid : Prop := Claim7.holds Tryz.pinned (.plain (OpenSpec.upto auditAcceptsSpec)) auditAcceptsUptoCard

/-- THE SECOND FORM's CARD OF 'flagstonelaw44.AuditRefuses'. -/
def auditRefusesUptoCard : Claim7 := { stood := { row := auditRefusesUptoRow, standIns := [], harness := (true, "e98c3997ab0547de82b7c527f205b0c0a10fc56b5d5d6c4b98cb247f7f5cff8c"), looks := true }, kinds := [], alts := [], laidByText := true, laidKinds := [.data, .data, .data, .data, .sentinel, .sentinel, .listed, .data, .pinned], laidTests := true, laidLooks := .later }
def AuditRefusesUptoCardSaid : Prop := Claim7.holds Tryz.pinned (.plain (OpenSpec.upto auditRefusesSpec)) auditRefusesUptoCard

/-- THE SECOND FORM's CARD OF 'flagstonelaw44.AuditTells'. -/
def auditTellsUptoCard : Claim7 := { stood := { row := auditTellsUptoRow, standIns := [], harness := (true, "e98c3997ab0547de82b7c527f205b0c0a10fc56b5d5d6c4b98cb247f7f5cff8c"), looks := true }, kinds := [], alts := [], laidByText := true, laidKinds := [.data, .data, .data, .data, .sentinel, .sentinel, .listed, .data, .pinned], laidTests := true, laidLooks := .later }
def AuditTellsUptoCardSaid : Prop := Claim7.holds Tryz.pinned (.plain (OpenSpec.upto auditTellsSpec)) auditTellsUptoCard

/-- THE SECOND FORM's CARD OF 'flagstonelaw44.AuditStays'. -/
def auditStaysUptoCard : Claim7 := { stood := { row := auditStaysUptoRow, standIns := [], harness := (true, "e98c3997ab0547de82b7c527f205b0c0a10fc56b5d5d6c4b98cb247f7f5cff8c"), looks := true }, kinds := [], alts := [], laidByText := true, laidKinds := [.data, .data, .data, .data, .sentinel, .sentinel, .listed, .data, .pinned], laidTests := true, laidLooks := .later }
def AuditStaysUptoCardSaid : Prop := Claim7.holds Tryz.pinned (.plain (OpenSpec.upto auditStaysSpec)) auditStaysUptoCard
end Rows
end Go.Proofs.YtjepffgpbidclaaGreatDoor
