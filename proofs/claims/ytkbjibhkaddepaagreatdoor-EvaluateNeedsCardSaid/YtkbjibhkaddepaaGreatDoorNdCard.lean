/- For every input EvaluateNeeds returns true and leaves its arguments as they were. This is part 11 of 11. Conditions: those in the statements. -/
import Derived.Test.YtkbjibhkaddepaaGreatDoorRows
import Derived.Test.YtkbjibhkaddepaaGreatDoorCards
import Derived.Test.YtkbjibhkaddepaaGreatDoorTie
import Derived.Test.YtkbjibhkaddepaaGreatDoorNd10
import Derived.KernelRfl
import Derived.WalkKit
import Derived.ProofKit
import Derived.OpenShut
import Derived.Deep.DeepHandedRow
import Derived.Deep.DeepWitnessRowRef
import Derived.Lay
import Derived.SevenTiedAt
section
namespace Go.Proofs.YtkbjibhkaddepaaGreatDoor.evaluateNeeds
open Go Go.RowKit Go.Fl Go.ChangeShapes Go.WideShapes Go.ChangeAt
open Go.ChangeMaps (open_string shut_string)
theorem card : Rows.EvaluateNeedsCardSaid :=
  Claim7.holds_tied_plain_at .later [] _ _ _ _ said (fun _ h => by cases h) kWf (fun _ h => by cases h) evaluateNeeds_row_tie rfl ⟨rfl, rfl⟩ (by kernel_rfl) rfl plain u2d
end Go.Proofs.YtkbjibhkaddepaaGreatDoor.evaluateNeeds
end
#print axioms Go.Proofs.YtkbjibhkaddepaaGreatDoor.evaluateNeeds.card
