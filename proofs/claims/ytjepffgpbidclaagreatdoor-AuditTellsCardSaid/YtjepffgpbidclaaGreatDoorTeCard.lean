/- For every input AuditTells returns true and leaves its arguments as they were. This is part 11 of 11. Conditions: those in the statements. -/
import Derived.Test.YtjepffgpbidclaaGreatDoorRows
import Derived.Test.YtjepffgpbidclaaGreatDoorCards
import Derived.Test.YtjepffgpbidclaaGreatDoorTie
import Derived.Test.YtjepffgpbidclaaGreatDoorTe10
import Derived.KernelRfl
import Derived.WalkKit
import Derived.ProofKit
import Derived.OpenShut
import Derived.Deep.DeepHandedRow
import Derived.Deep.DeepWitnessRowRef
import Derived.Lay
import Derived.SevenTiedAt
section
namespace Go.Proofs.YtjepffgpbidclaaGreatDoor.auditTells
open Go Go.RowKit Go.Fl Go.ChangeShapes Go.WideShapes Go.ChangeAt
open Go.ChangeMaps (open_string shut_string)
theorem card : Rows.AuditTellsCardSaid :=
  Claim7.holds_tied_plain_at .later [] _ _ _ _ said (fun _ h => by cases h) kWf (fun _ h => by cases h) auditTells_row_tie rfl ⟨rfl, rfl⟩ (by kernel_rfl) rfl plain y8n
end Go.Proofs.YtjepffgpbidclaaGreatDoor.auditTells
end
#print axioms Go.Proofs.YtjepffgpbidclaaGreatDoor.auditTells.card
