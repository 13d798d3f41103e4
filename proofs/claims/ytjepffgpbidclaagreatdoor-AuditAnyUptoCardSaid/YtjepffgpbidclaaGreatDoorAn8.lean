/- Explain and Check return what is specified for any register, record and environment with the layers and experiments of a made one; for every input of bulk at most 1048576 the law returns true. This is part 8 of 10. Conditions: those in the statements. -/
import Derived.Test.YtjepffgpbidclaaGreatDoorRows
import Derived.Test.YtjepffgpbidclaaGreatDoorAn7
import Derived.KernelRfl
import Derived.WalkKit
import Derived.ProofKit
import Derived.OpenShut
import Derived.Deep.DeepHandedRow
import Derived.Deep.DeepWitnessRowRef
import Derived.Lay
import Derived.SevenTiedAt
noncomputable section
set_option maxRecDepth 100000
namespace Go.Proofs.YtjepffgpbidclaaGreatDoor.auditAnyUpto
open Go Go.RowKit Go.Fl Go.ChangeShapes Go.WideShapes Go.ChangeAt
open Go.ChangeMaps (open_string shut_string)
theorem w6i:(Rows.auditAnyUptoRow.inPlace==Tryz.pinned.checked.prog.inPlace 3)=true:=by kernel_rfl
theorem kUnf:(Rows.auditAnyUptoRow.unfollowed==Tryz.pinned.checked.prog.unfollowed 3)=true:=by kernel_rfl
theorem kRec:(Rows.auditAnyUptoRow.recurses==Tryz.pinned.checked.prog.recurses 3)=true:=by kernel_rfl
theorem v2b:(Rows.auditAnyUptoRow.named==Tryz.pinned.checked.prog.varsNamed 3)=true:=by kernel_rfl
theorem closed:joinedFacts Tryz.pinned.checked.prog 3 Tryz.f3 (Rows.OpenSpec.upto Rows.auditAnySpec).bare Rows.auditAnyUptoRow=true:=by
 unfold joinedFacts
 rw[w6i,kUnf,kRec,v2b]
 kernel_rfl
theorem said:Rows.AuditAnyUptoSaid:=
 OpenClaim.holds_of_cond 3 Tryz.f3 rfl rfl rfl rfl rfl rfl rfl ⟨rfl,rfl,rfl,rfl,rfl⟩ rfl rfl rfl rfl rfl (by kernel_rfl) Tryz.func3 closed
  (of_decide_eq_true (by kernel_rfl)) (by unfold Func.isWrapper;first|(rw[if_pos (by decide+kernel)];kernel_rfl)|(rw[if_neg (by decide+kernel)];exact⟨rfl,rfl⟩))
  (fun os started H enc _ F=>by rw[OpenClaim.pre_eq_preRow];exact lifted os started H enc F)
end Go.Proofs.YtjepffgpbidclaaGreatDoor.auditAnyUpto
end
