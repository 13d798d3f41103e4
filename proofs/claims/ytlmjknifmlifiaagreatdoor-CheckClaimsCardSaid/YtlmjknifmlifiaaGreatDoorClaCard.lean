/- CheckClaims This is part 11 of 11. Conditions: those in the statements. -/
import Derived.Test.YtlmjknifmlifiaaGreatDoorRows
import Derived.Test.YtlmjknifmlifiaaGreatDoorCards
import Derived.Test.YtlmjknifmlifiaaGreatDoorTie
import Derived.Test.YtlmjknifmlifiaaGreatDoorCla10
import Derived.KernelRfl
import Derived.WalkKit
import Derived.ProofKit
import Derived.OpenShut
import Derived.Deep.DeepHandedRow
import Derived.Deep.DeepWitnessRowRef
import Derived.Lay
import Derived.SevenTiedAt
section
namespace Go.Proofs.YtlmjknifmlifiaaGreatDoor.checkClaims
open Go Go.RowKit Go.Fl Go.ChangeShapes Go.WideShapes Go.ChangeAt
theorem card : Rows.CheckClaimsCardSaid :=
  Claim7.holds_tied_plain_at .later [] _ _ _ _ said (fun _ h => by cases h) kWf (fun _ h => by cases h) checkClaims_row_tie rfl ⟨rfl, rfl⟩ (by kernel_rfl) rfl plain u03
end Go.Proofs.YtlmjknifmlifiaaGreatDoor.checkClaims
end
#print axioms Go.Proofs.YtlmjknifmlifiaaGreatDoor.checkClaims.card
