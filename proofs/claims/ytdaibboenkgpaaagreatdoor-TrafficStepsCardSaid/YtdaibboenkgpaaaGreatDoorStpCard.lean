/- TrafficSteps This is part 10 of 10. Conditions: those in the statements. -/
import Derived.Test.YtdaibboenkgpaaaGreatDoorRows
import Derived.Test.YtdaibboenkgpaaaGreatDoorCards
import Derived.Test.YtdaibboenkgpaaaGreatDoorTie
import Derived.Test.YtdaibboenkgpaaaGreatDoorStp9
import Derived.KernelRfl
import Derived.WalkKit
import Derived.ProofKit
import Derived.OpenShut
import Derived.Deep.DeepHandedRow
import Derived.Deep.DeepWitnessRowRef
import Derived.Lay
import Derived.SevenTiedAt
section
namespace Go.Proofs.YtdaibboenkgpaaaGreatDoor.trafficSteps
open Go Go.RowKit Go.Fl Go.ChangeShapes Go.WideShapes Go.ChangeAt
theorem card : Rows.TrafficStepsCardSaid :=
  Claim7.holds_tied_plain_at .later [] _ _ _ _ said (fun _ h => by cases h) kWf (fun _ h => by cases h) trafficSteps_row_tie rfl ⟨rfl, rfl⟩ (by kernel_rfl) rfl plain v8e
end Go.Proofs.YtdaibboenkgpaaaGreatDoor.trafficSteps
end
#print axioms Go.Proofs.YtdaibboenkgpaaaGreatDoor.trafficSteps.card
