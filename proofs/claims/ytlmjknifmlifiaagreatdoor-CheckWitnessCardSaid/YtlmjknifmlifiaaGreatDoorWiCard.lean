/- CheckWitness: a rule is unreachable exactly if there are no truth values for which it is the first that holds This is part 9 of 9. Conditions: those in the statements. -/
import Derived.Test.YtlmjknifmlifiaaGreatDoorRows
import Derived.Test.YtlmjknifmlifiaaGreatDoorCards
import Derived.Test.YtlmjknifmlifiaaGreatDoorTie
import Derived.Test.YtlmjknifmlifiaaGreatDoorWi8
import Derived.KernelRfl
import Derived.WalkKit
import Derived.ProofKit
import Derived.OpenShut
import Derived.Deep.DeepHandedRow
import Derived.Deep.DeepWitnessRowRef
import Derived.Lay
import Derived.SevenTiedAt
section
namespace Go.Proofs.YtlmjknifmlifiaaGreatDoor.checkWitness
open Go Go.RowKit Go.Fl Go.ChangeShapes Go.WideShapes Go.ChangeAt
open Go.ChangeMaps (open_string shut_string)
theorem card : Rows.CheckWitnessCardSaid :=
  Claim7.holds_tied_plain_at .later [] _ _ _ _ said (fun _ h => by cases h) kWf (fun _ h => by cases h) checkWitness_row_tie rfl ⟨rfl, rfl⟩ (by kernel_rfl) rfl plain j7v
end Go.Proofs.YtlmjknifmlifiaaGreatDoor.checkWitness
end
#print axioms Go.Proofs.YtlmjknifmlifiaaGreatDoor.checkWitness.card
