/- For every input within the given bound on its size EvaluateFlags returns true and leaves its arguments as they were. This is part 9 of 11. Conditions: those in the statements. -/
import Derived.Test.YtkbjibhkaddepaaGreatDoorRows
import Derived.Test.YtkbjibhkaddepaaGreatDoorFl8
import Derived.KernelRfl
import Derived.WalkKit
import Derived.ProofKit
import Derived.OpenShut
import Derived.Deep.DeepHandedRow
import Derived.Deep.DeepWitnessRowRef
import Derived.Lay
import Derived.SevenTiedAt
noncomputable section
set_option maxRecDepth 100000
namespace Go.Proofs.YtkbjibhkaddepaaGreatDoor.evaluateFlagsUpto
open Go Go.RowKit Go.Fl Go.ChangeShapes Go.WideShapes Go.ChangeAt
open Go.ChangeMaps (open_string shut_string)
theorem u0u:(Rows.evaluateFlagsUptoRow.inPlace==Tryz.pinned.checked.prog.inPlace 6)=true:=by kernel_rfl
theorem kUnf:(Rows.evaluateFlagsUptoRow.unfollowed==Tryz.pinned.checked.prog.unfollowed 6)=true:=by kernel_rfl
theorem kRec:(Rows.evaluateFlagsUptoRow.recurses==Tryz.pinned.checked.prog.recurses 6)=true:=by kernel_rfl
theorem u7i:(Rows.evaluateFlagsUptoRow.named==Tryz.pinned.checked.prog.varsNamed 6)=true:=by kernel_rfl
theorem closed:joinedFacts Tryz.pinned.checked.prog 6 Tryz.f6 (Rows.OpenSpec.upto Rows.evaluateFlagsSpec).bare Rows.evaluateFlagsUptoRow=true:=by
 unfold joinedFacts
 rw[u0u,kUnf,kRec,u7i]
 kernel_rfl
theorem said:Rows.EvaluateFlagsUptoSaid:=
 OpenClaim.holds_of_cond 6 Tryz.f6 rfl rfl rfl rfl rfl rfl rfl ⟨rfl,rfl,rfl,rfl,rfl⟩ rfl rfl rfl rfl rfl (by kernel_rfl) Tryz.func6 closed
  (of_decide_eq_true (by kernel_rfl)) (by unfold Func.isWrapper;first|(rw[if_pos (by decide+kernel)];kernel_rfl)|(rw[if_neg (by decide+kernel)];exact⟨rfl,rfl⟩))
  (fun os started H enc _ F=>by rw[OpenClaim.pre_eq_preRow];exact lifted os started H enc F)
end Go.Proofs.YtkbjibhkaddepaaGreatDoor.evaluateFlagsUpto
end
