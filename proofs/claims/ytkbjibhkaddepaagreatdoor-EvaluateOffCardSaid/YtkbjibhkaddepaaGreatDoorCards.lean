/-
  DERIVED. GIVEN WITH THE SEED: THE CARDS: each row of YtkbjibhkaddepaaGreatDoorRows.lean that lists a variable, with what it lists TIED to the program's text (the seventh form; the later family's looks); each row that meets fmt, with fmt's text TOLD by the authors' own Lean function (tested against real Go, not proved from fmt's source: count such statements apart). THE CARD IS WHAT COUNTS. Prove the row's statement (the work); the ties are given (YtkbjibhkaddepaaGreatDoorTie.lean); close each card by the builder's one call (the guide's Derived/Test/ToyasCard.lean, 'card_holds'). Laid BY PROGRAM, IN A SANDBOX (cutbox-door.mjs). By AI agents, Wed Nov 11 2026. No macro, syntax, notation, axiom, sorry.
-/
import Derived.Test.YtkbjibhkaddepaaGreatDoorRows
import GoSem.ClaimSeven
namespace Go.Proofs.YtkbjibhkaddepaaGreatDoor
namespace Rows

/-- THE TIED CARD OF 'flagstonelaw16.EvaluateServes'. -/
def evaluateServesCard : Claim7 := { stood := { row := evaluateServesRow, standIns := [], harness := (true, "5d838c9e7335796fb786148365733490c57def494b676a45bfef99cd16b0eb31"), looks := true }, kinds := [], alts := [], laidByText := true, laidKinds := [.data, .data, .data, .data, .data, .data, .widerDeep, .sentinel, .sentinel, .pinned], laidTests := true, laidLooks := .later }
def EvaluateServesCardSaid : Prop := Claim7.holds Tryz.pinned (.plain (OpenSpec.ofChange evaluateServesSpec)) evaluateServesCard

/-- THE TIED CARD OF 'flagstonelaw16.EvaluateNeeds'. -/
def evaluateNeedsCard : Claim7 := { stood := { row := evaluateNeedsRow, standIns := [], harness := (true, "5d838c9e7335796fb786148365733490c57def494b676a45bfef99cd16b0eb31"), looks := true }, kinds := [], alts := [], laidByText := true, laidKinds := [.data, .data, .data, .data, .data, .data, .widerDeep, .sentinel, .sentinel, .pinned], laidTests := true, laidLooks := .later }
def EvaluateNeedsCardSaid : Prop := Claim7.holds Tryz.pinned (.plain (OpenSpec.ofChange evaluateNeedsSpec)) evaluateNeedsCard

/-- THE TIED CARD OF 'flagstonelaw16.EvaluateRules'. -/
def evaluateRulesCard : Claim7 := { stood := { row := evaluateRulesRow, standIns := [], harness := (true, "5d838c9e7335796fb786148365733490c57def494b676a45bfef99cd16b0eb31"), looks := true }, kinds := [], alts := [], laidByText := true, laidKinds := [.data, .data, .data, .data, .data, .data, .widerDeep, .sentinel, .sentinel, .pinned], laidTests := true, laidLooks := .later }
def EvaluateRulesCardSaid : Prop := Claim7.holds Tryz.pinned (.plain (OpenSpec.ofChange evaluateRulesSpec)) evaluateRulesCard

/-- THE TIED CARD OF 'flagstonelaw16.EvaluateFlags'. -/
def evaluateFlagsCard : Claim7 := { stood := { row := evaluateFlagsRow, standIns := [], harness := (true, "5d838c9e7335796fb786148365733490c57def494b676a45bfef99cd16b0eb31"), looks := true }, kinds := [], alts := [], laidByText := true, laidKinds := [.data, .data, .data, .data, .data, .data, .widerDeep, .sentinel, .sentinel, .pinned], laidTests := true, laidLooks := .later }
def EvaluateFlagsCardSaid : Prop := Claim7.holds Tryz.pinned (.plain (OpenSpec.ofChange evaluateFlagsSpec)) evaluateFlagsCard

/-- THE TIED CARD OF 'flagstonelaw16.EvaluateReasons'. -/
def evaluateReasonsCard : Claim7 := { stood := { row := evaluateReasonsRow, standIns := [], harness := (true, "5d838c9e7335796fb786148365733490c57def494b676a45bfef99cd16b0eb31"), looks := true }, kinds := [], alts := [], laidByText := true, laidKinds := [.data, .data, .data, .data, .data, .data, .widerDeep, .sentinel, .sentinel, .pinned], laidTests := true, laidLooks := .later }
def EvaluateReasonsCardSaid : Prop := Claim7.holds Tryz.pinned (.plain (OpenSpec.ofChange evaluateReasonsSpec)) evaluateReasonsCard

/-- THE TIED CARD OF 'flagstonelaw16.EvaluateOff'. -/
def evaluateOffCard : Claim7 := { stood := { row := evaluateOffRow, standIns := [], harness := (true, "5d838c9e7335796fb786148365733490c57def494b676a45bfef99cd16b0eb31"), looks := true }, kinds := [], alts := [], laidByText := true, laidKinds := [.data, .data, .data, .data, .data, .data, .widerDeep, .sentinel, .sentinel, .pinned], laidTests := true, laidLooks := .later }
def EvaluateOffCardSaid : Prop := Claim7.holds Tryz.pinned (.plain (OpenSpec.ofChange evaluateOffSpec)) evaluateOffCard

/-- THE SECOND FORM's CARD OF 'flagstonelaw16.EvaluateServes'. -/
def evaluateServesUptoCard : Claim7 := { stood := { row := evaluateServesUptoRow, standIns := [], harness := (true, "5d838c9e7335796fb786148365733490c57def494b676a45bfef99cd16b0eb31"), looks := true }, kinds := [], alts := [], laidByText := true, laidKinds := [.data, .data, .data, .data, .data, .data, .widerDeep, .sentinel, .sentinel, .pinned], laidTests := true, laidLooks := .later }
def EvaluateServesUptoCardSaid : Prop := Claim7.holds Tryz.pinned (.plain (OpenSpec.upto evaluateServesSpec)) evaluateServesUptoCard

/-- THE SECOND FORM's CARD OF 'flagstonelaw16.EvaluateNeeds'. -/
def evaluateNeedsUptoCard : Claim7 := { stood := { row := evaluateNeedsUptoRow, standIns := [], harness := (true, "5d838c9e7335796fb786148365733490c57def494b676a45bfef99cd16b0eb31"), looks := true }, kinds := [], alts := [], laidByText := true, laidKinds := [.data, .data, .data, .data, .data, .data, .widerDeep, .sentinel, .sentinel, .pinned], laidTests := true, laidLooks := .later }
def EvaluateNeedsUptoCardSaid : Prop := Claim7.holds Tryz.pinned (.plain (OpenSpec.upto evaluateNeedsSpec)) evaluateNeedsUptoCard

/-- THE SECOND FORM's CARD OF 'flagstonelaw16.EvaluateRules'. -/
def evaluateRulesUptoCard : Claim7 := { stood := { row := evaluateRulesUptoRow, standIns := [], harness := (true, "5d838c9e7335796fb786148365733490c57def494b676a45bfef99cd16b0eb31"), looks := true }, kinds := [], alts := [], laidByText := true, laidKinds := [.data, .data, .data, .data, .data, .data, .widerDeep, .sentinel, .sentinel, .pinned], laidTests := true, laidLooks := .later }
def EvaluateRulesUptoCardSaid : Prop := Claim7.holds Tryz.pinned (.plain (OpenSpec.upto evaluateRulesSpec)) evaluateRulesUptoCard

/-- THE SECOND FORM's CARD OF 'flagstonelaw16.EvaluateFlags'. -/
def evaluateFlagsUptoCard : Claim7 := { stood := { row := evaluateFlagsUptoRow, standIns := [], harness := (true, "5d838c9e7335796fb786148365733490c57def494b676a45bfef99cd16b0eb31"), looks := true }, kinds := [], alts := [], laidByText := true, laidKinds := [.data, .data, .data, .data, .data, .data, .widerDeep, .sentinel, .sentinel, .pinned], laidTests := true, laidLooks := .later }
def EvaluateFlagsUptoCardSaid : Prop := Claim7.holds Tryz.pinned (.plain (OpenSpec.upto evaluateFlagsSpec)) evaluateFlagsUptoCard

/-- THE SECOND FORM's CARD OF 'flagstonelaw16.EvaluateReasons'. -/
def evaluateReasonsUptoCard : Claim7 := { stood := { row := evaluateReasonsUptoRow, standIns := [], harness := (true, "5d838c9e7335796fb786148365733490c57def494b676a45bfef99cd16b0eb31"), looks := true }, kinds := [], alts := [], laidByText := true, laidKinds := [.data, .data, .data, .data, .data, .data, .widerDeep, .sentinel, .sentinel, .pinned], laidTests := true, laidLooks := .later }
def EvaluateReasonsUptoCardSaid : Prop := Claim7.holds Tryz.pinned (.plain (OpenSpec.upto evaluateReasonsSpec)) evaluateReasonsUptoCard

/-- THE SECOND FORM's CARD OF 'flagstonelaw16.EvaluateOff'. -/
def evaluateOffUptoCard : Claim7 := { stood := { row := evaluateOffUptoRow, standIns := [], harness := (true, "5d838c9e7335796fb786148365733490c57def494b676a45bfef99cd16b0eb31"), looks := true }, kinds := [], alts := [], laidByText := true, laidKinds := [.data, .data, .data, .data, .data, .data, .widerDeep, .sentinel, .sentinel, .pinned], laidTests := true, laidLooks := .later }
def EvaluateOffUptoCardSaid : Prop := Claim7.holds Tryz.pinned (.plain (OpenSpec.upto evaluateOffSpec)) evaluateOffUptoCard
end Rows
end Go.Proofs.YtkbjibhkaddepaaGreatDoor
