/- EvaluateOff: a flag that is switched off serves its off variation, flags that need it fail, and switching it on restores every decision This is part 10 of 10. Conditions: those in the statements. -/
import Derived.Test.YtkbjibhkaddepaaGreatDoorRows
import Derived.Test.YtkbjibhkaddepaaGreatDoorCards
import Derived.Test.YtkbjibhkaddepaaGreatDoorTie
import Derived.Test.YtkbjibhkaddepaaGreatDoorOf9
import Derived.KernelRfl
import Derived.WalkKit
import Derived.ProofKit
import Derived.OpenShut
import Derived.Deep.DeepHandedRow
import Derived.Deep.DeepWitnessRowRef
import Derived.Lay
import Derived.SevenTiedAt
section
namespace Go.Proofs.YtkbjibhkaddepaaGreatDoor.evaluateOff
open Go Go.RowKit Go.Fl Go.ChangeShapes Go.WideShapes Go.ChangeAt
open Go.ChangeMaps (open_string shut_string)
theorem card : Rows.EvaluateOffCardSaid :=
  Claim7.holds_tied_plain_at .later [] _ _ _ _ said (fun _ h => by cases h) kWf (fun _ h => by cases h) evaluateOff_row_tie rfl ⟨rfl, rfl⟩ (by kernel_rfl) rfl plain y9u
end Go.Proofs.YtkbjibhkaddepaaGreatDoor.evaluateOff
end
#print axioms Go.Proofs.YtkbjibhkaddepaaGreatDoor.evaluateOff.card
