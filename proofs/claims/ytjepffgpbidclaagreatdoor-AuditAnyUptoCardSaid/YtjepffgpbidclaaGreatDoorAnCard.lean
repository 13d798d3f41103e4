/- Explain and Check return what is specified for any register, record and environment with the layers and experiments of a made one; for every input of bulk at most 1048576 the law returns true. This is part 10 of 10. Conditions: those in the statements. -/
import Derived.Test.YtjepffgpbidclaaGreatDoorRows
import Derived.Test.YtjepffgpbidclaaGreatDoorCards
import Derived.Test.YtjepffgpbidclaaGreatDoorTie
import Derived.Test.YtjepffgpbidclaaGreatDoorAn9
import Derived.KernelRfl
import Derived.WalkKit
import Derived.ProofKit
import Derived.OpenShut
import Derived.Deep.DeepHandedRow
import Derived.Deep.DeepWitnessRowRef
import Derived.Lay
import Derived.SevenTiedAt
section
namespace Go.Proofs.YtjepffgpbidclaaGreatDoor.auditAnyUpto
open Go Go.RowKit Go.Fl Go.ChangeShapes Go.WideShapes Go.ChangeAt
open Go.ChangeMaps (open_string shut_string)
theorem card : Rows.AuditAnyUptoCardSaid :=
  Claim7.holds_tied_plain_at .later [] _ _ _ _ said (fun _ h => by cases h) kWf (fun _ h => by cases h) auditAnyUpto_row_tie rfl ⟨rfl, rfl⟩ (by kernel_rfl) rfl plain v3w
end Go.Proofs.YtjepffgpbidclaaGreatDoor.auditAnyUpto
end
#print axioms Go.Proofs.YtjepffgpbidclaaGreatDoor.auditAnyUpto.card
