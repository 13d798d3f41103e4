/- For every input AuditStays returns true and leaves its arguments as they were. This is part 8 of 10. Conditions: those in the statements. -/
import Derived.Test.YtjepffgpbidclaaGreatDoorRows
import Derived.Test.YtjepffgpbidclaaGreatDoorSy7
import Derived.KernelRfl
import Derived.WalkKit
import Derived.ProofKit
import Derived.OpenShut
import Derived.Deep.DeepHandedRow
import Derived.Deep.DeepWitnessRowRef
import Derived.Lay
import Derived.SevenTiedAt
noncomputable section
set_option maxRecDepth 100000
namespace Go.Proofs.YtjepffgpbidclaaGreatDoor.auditStays
open Go Go.RowKit Go.Fl Go.ChangeShapes Go.WideShapes Go.ChangeAt
open Go.ChangeMaps (open_string shut_string)
theorem w4n:(Rows.auditStaysRow.inPlace==Tryz.pinned.checked.prog.inPlace 8)=true:=by kernel_rfl
theorem kUnf:(Rows.auditStaysRow.unfollowed==Tryz.pinned.checked.prog.unfollowed 8)=true:=by kernel_rfl
theorem kRec:(Rows.auditStaysRow.recurses==Tryz.pinned.checked.prog.recurses 8)=true:=by kernel_rfl
theorem v03:(Rows.auditStaysRow.named==Tryz.pinned.checked.prog.varsNamed 8)=true:=by kernel_rfl
theorem closed:joinedFacts Tryz.pinned.checked.prog 8 Tryz.f8 (OpenSpec.ofChange Rows.auditStaysSpec).bare Rows.auditStaysRow=true:=by
 unfold joinedFacts
 rw[w4n,kUnf,kRec,v03]
 kernel_rfl
theorem said:Rows.AuditStaysSaid:=
 OpenClaim.holds_of_cond 8 Tryz.f8 rfl rfl rfl rfl rfl rfl rfl ⟨rfl,rfl,rfl,rfl,rfl⟩ rfl rfl rfl rfl rfl (by kernel_rfl) Tryz.func8 closed
  (of_decide_eq_true (by kernel_rfl)) (by unfold Func.isWrapper;first|(rw[if_pos (by decide+kernel)];kernel_rfl)|(rw[if_neg (by decide+kernel)];exact⟨rfl,rfl⟩))
  (fun os started H enc _ F=>by rw[OpenClaim.pre_eq_preRow];exact lifted os started H enc F)
end Go.Proofs.YtjepffgpbidclaaGreatDoor.auditStays
end
