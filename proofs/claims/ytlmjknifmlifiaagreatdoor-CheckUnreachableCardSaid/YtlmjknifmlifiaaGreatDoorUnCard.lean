/- CheckUnreachable: which of any rules can never be applied This is part 9 of 9. Conditions: those in the statements. -/
import Derived.Test.YtlmjknifmlifiaaGreatDoorRows
import Derived.Test.YtlmjknifmlifiaaGreatDoorCards
import Derived.Test.YtlmjknifmlifiaaGreatDoorTie
import Derived.Test.YtlmjknifmlifiaaGreatDoorUn8
import Derived.KernelRfl
import Derived.WalkKit
import Derived.ProofKit
import Derived.OpenShut
import Derived.Deep.DeepHandedRow
import Derived.Deep.DeepWitnessRowRef
import Derived.Lay
import Derived.SevenTiedAt
section
namespace Go.Proofs.YtlmjknifmlifiaaGreatDoor.checkUnreachable
open Go Go.RowKit Go.Fl Go.ChangeShapes Go.WideShapes Go.ChangeAt
open Go.ChangeMaps (open_string shut_string)
theorem card : Rows.CheckUnreachableCardSaid :=
  Claim7.holds_tied_plain_at .later [] _ _ _ _ said (fun _ h => by cases h) kWf (fun _ h => by cases h) checkUnreachable_row_tie rfl ⟨rfl, rfl⟩ (by kernel_rfl) rfl plain w0z
end Go.Proofs.YtlmjknifmlifiaaGreatDoor.checkUnreachable
end
#print axioms Go.Proofs.YtlmjknifmlifiaaGreatDoor.checkUnreachable.card
