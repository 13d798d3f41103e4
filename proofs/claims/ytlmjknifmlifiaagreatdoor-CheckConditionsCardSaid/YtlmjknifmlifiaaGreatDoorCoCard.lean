/- CheckConditions: the diagram of a condition stands for its truth by the atoms This is part 9 of 9. Conditions: those in the statements. -/
import Derived.Test.YtlmjknifmlifiaaGreatDoorRows
import Derived.Test.YtlmjknifmlifiaaGreatDoorCards
import Derived.Test.YtlmjknifmlifiaaGreatDoorTie
import Derived.Test.YtlmjknifmlifiaaGreatDoorCo8
import Derived.KernelRfl
import Derived.WalkKit
import Derived.ProofKit
import Derived.OpenShut
import Derived.Deep.DeepHandedRow
import Derived.Deep.DeepWitnessRowRef
import Derived.Lay
import Derived.SevenTiedAt
section
namespace Go.Proofs.YtlmjknifmlifiaaGreatDoor.checkConditions
open Go Go.RowKit Go.Fl Go.ChangeShapes Go.WideShapes Go.ChangeAt
open Go.ChangeMaps (open_string shut_string)
theorem card : Rows.CheckConditionsCardSaid :=
  Claim7.holds_tied_plain_at .later [] _ _ _ _ said (fun _ h => by cases h) kWf (fun _ h => by cases h) checkConditions_row_tie rfl ⟨rfl, rfl⟩ (by kernel_rfl) rfl plain w01
end Go.Proofs.YtlmjknifmlifiaaGreatDoor.checkConditions
end
#print axioms Go.Proofs.YtlmjknifmlifiaaGreatDoor.checkConditions.card
