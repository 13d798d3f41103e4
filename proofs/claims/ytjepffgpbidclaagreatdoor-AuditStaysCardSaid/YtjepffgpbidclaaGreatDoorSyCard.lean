/- For every input AuditStays returns true and leaves its arguments as they were. This is part 10 of 10. Conditions: those in the statements. -/
import Derived.Test.YtjepffgpbidclaaGreatDoorRows
import Derived.Test.YtjepffgpbidclaaGreatDoorCards
import Derived.Test.YtjepffgpbidclaaGreatDoorTie
import Derived.Test.YtjepffgpbidclaaGreatDoorSy9
import Derived.KernelRfl
import Derived.WalkKit
import Derived.ProofKit
import Derived.OpenShut
import Derived.Deep.DeepHandedRow
import Derived.Deep.DeepWitnessRowRef
import Derived.Lay
import Derived.SevenTiedAt
section
namespace Go.Proofs.YtjepffgpbidclaaGreatDoor.auditStays
open Go Go.RowKit Go.Fl Go.ChangeShapes Go.WideShapes Go.ChangeAt
open Go.ChangeMaps (open_string shut_string)
theorem card : Rows.AuditStaysCardSaid :=
  Claim7.holds_tied_plain_at .later [] _ _ _ _ said (fun _ h => by cases h) kWf (fun _ h => by cases h) auditStays_row_tie rfl ⟨rfl, rfl⟩ (by kernel_rfl) rfl plain v2w
end Go.Proofs.YtjepffgpbidclaaGreatDoor.auditStays
end
#print axioms Go.Proofs.YtjepffgpbidclaaGreatDoor.auditStays.card
