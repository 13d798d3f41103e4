/- EvaluateOff: a flag that is switched off serves its off variation, flags that need it fail, and switching it on restores every decision This is part 8 of 10. Conditions: those in the statements. -/
import Derived.Test.YtkbjibhkaddepaaGreatDoorRows
import Derived.Test.YtkbjibhkaddepaaGreatDoorOf7
import Derived.KernelRfl
import Derived.WalkKit
import Derived.ProofKit
import Derived.OpenShut
import Derived.Deep.DeepHandedRow
import Derived.Deep.DeepWitnessRowRef
import Derived.Lay
import Derived.SevenTiedAt
noncomputable section
set_option maxRecDepth 100000
namespace Go.Proofs.YtkbjibhkaddepaaGreatDoor.evaluateOff
open Go Go.RowKit Go.Fl Go.ChangeShapes Go.WideShapes Go.ChangeAt
open Go.ChangeMaps (open_string shut_string)
theorem y0q:(Rows.evaluateOffRow.inPlace==Tryz.pinned.checked.prog.inPlace 8)=true:=by kernel_rfl
theorem kUnf:(Rows.evaluateOffRow.unfollowed==Tryz.pinned.checked.prog.unfollowed 8)=true:=by kernel_rfl
theorem kRec:(Rows.evaluateOffRow.recurses==Tryz.pinned.checked.prog.recurses 8)=true:=by kernel_rfl
theorem y70:(Rows.evaluateOffRow.named==Tryz.pinned.checked.prog.varsNamed 8)=true:=by kernel_rfl
theorem closed:joinedFacts Tryz.pinned.checked.prog 8 Tryz.f8 (OpenSpec.ofChange Rows.evaluateOffSpec).bare Rows.evaluateOffRow=true:=by
 unfold joinedFacts
 rw[y0q,kUnf,kRec,y70]
 kernel_rfl
theorem said:Rows.EvaluateOffSaid:=
 OpenClaim.holds_of_cond 8 Tryz.f8 rfl rfl rfl rfl rfl rfl rfl ⟨rfl,rfl,rfl,rfl,rfl⟩ rfl rfl rfl rfl rfl (by kernel_rfl) Tryz.func8 closed
  (of_decide_eq_true (by kernel_rfl)) (by unfold Func.isWrapper;first|(rw[if_pos (by decide+kernel)];kernel_rfl)|(rw[if_neg (by decide+kernel)];exact⟨rfl,rfl⟩))
  (fun os started H enc _ F=>by rw[OpenClaim.pre_eq_preRow];exact lifted os started H enc F)
end Go.Proofs.YtkbjibhkaddepaaGreatDoor.evaluateOff
end
