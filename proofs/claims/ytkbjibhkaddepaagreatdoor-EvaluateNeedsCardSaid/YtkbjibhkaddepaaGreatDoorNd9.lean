/- For every input EvaluateNeeds returns true and leaves its arguments as they were. This is part 9 of 11. Conditions: those in the statements. -/
import Derived.Test.YtkbjibhkaddepaaGreatDoorRows
import Derived.Test.YtkbjibhkaddepaaGreatDoorNd8
import Derived.KernelRfl
import Derived.WalkKit
import Derived.ProofKit
import Derived.OpenShut
import Derived.Deep.DeepHandedRow
import Derived.Deep.DeepWitnessRowRef
import Derived.Lay
import Derived.SevenTiedAt
noncomputable section
set_option maxRecDepth 100000
namespace Go.Proofs.YtkbjibhkaddepaaGreatDoor.evaluateNeeds
open Go Go.RowKit Go.Fl Go.ChangeShapes Go.WideShapes Go.ChangeAt
open Go.ChangeMaps (open_string shut_string)
theorem y3j:(Rows.evaluateNeedsRow.inPlace==Tryz.pinned.checked.prog.inPlace 4)=true:=by kernel_rfl
theorem kUnf:(Rows.evaluateNeedsRow.unfollowed==Tryz.pinned.checked.prog.unfollowed 4)=true:=by kernel_rfl
theorem kRec:(Rows.evaluateNeedsRow.recurses==Tryz.pinned.checked.prog.recurses 4)=true:=by kernel_rfl
theorem u0e:(Rows.evaluateNeedsRow.named==Tryz.pinned.checked.prog.varsNamed 4)=true:=by kernel_rfl
theorem closed:joinedFacts Tryz.pinned.checked.prog 4 Tryz.f4 (OpenSpec.ofChange Rows.evaluateNeedsSpec).bare Rows.evaluateNeedsRow=true:=by
 unfold joinedFacts
 rw[y3j,kUnf,kRec,u0e]
 kernel_rfl
theorem said:Rows.EvaluateNeedsSaid:=
 OpenClaim.holds_of_cond 4 Tryz.f4 rfl rfl rfl rfl rfl rfl rfl ⟨rfl,rfl,rfl,rfl,rfl⟩ rfl rfl rfl rfl rfl (by kernel_rfl) Tryz.func4 closed
  (of_decide_eq_true (by kernel_rfl)) (by unfold Func.isWrapper;first|(rw[if_pos (by decide+kernel)];kernel_rfl)|(rw[if_neg (by decide+kernel)];exact⟨rfl,rfl⟩))
  (fun os started H enc _ F=>by rw[OpenClaim.pre_eq_preRow];exact lifted os started H enc F)
end Go.Proofs.YtkbjibhkaddepaaGreatDoor.evaluateNeeds
end
