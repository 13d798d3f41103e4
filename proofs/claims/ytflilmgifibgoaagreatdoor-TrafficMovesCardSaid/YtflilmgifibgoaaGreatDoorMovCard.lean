/- TrafficMoves This is part 10 of 10. Conditions: those in the statements. -/
import Derived.Test.YtflilmgifibgoaaGreatDoorRows
import Derived.Test.YtflilmgifibgoaaGreatDoorCards
import Derived.Test.YtflilmgifibgoaaGreatDoorTie
import Derived.Test.YtflilmgifibgoaaGreatDoorMov9
import Derived.KernelRfl
import Derived.WalkKit
import Derived.ProofKit
import Derived.OpenShut
import Derived.Deep.DeepHandedRow
import Derived.Deep.DeepWitnessRowRef
import Derived.Lay
import Derived.SevenTiedAt
section
namespace Go.Proofs.YtflilmgifibgoaaGreatDoor.trafficMoves
open Go Go.RowKit Go.Fl Go.ChangeShapes Go.WideShapes Go.ChangeAt
theorem card : Rows.TrafficMovesCardSaid :=
  Claim7.holds_tied_plain_at .later [] _ _ _ _ said (fun _ h => by cases h) kWf (fun _ h => by cases h) trafficMoves_row_tie rfl ⟨rfl, rfl⟩ (by kernel_rfl) rfl plain y1u
end Go.Proofs.YtflilmgifibgoaaGreatDoor.trafficMoves
end
#print axioms Go.Proofs.YtflilmgifibgoaaGreatDoor.trafficMoves.card
