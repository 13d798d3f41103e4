/- In words: each decision has a value of its type, and its reason is true; for every input the law returns true. This is part 9 of 11. Conditions: those in the statements. -/
import Derived.Test.YtkbjibhkaddepaaGreatDoorRows
import Derived.Test.YtkbjibhkaddepaaGreatDoorRe8
import Derived.KernelRfl
import Derived.WalkKit
import Derived.ProofKit
import Derived.OpenShut
import Derived.Deep.DeepHandedRow
import Derived.Deep.DeepWitnessRowRef
import Derived.Lay
import Derived.SevenTiedAt
noncomputable section
set_option maxRecDepth 100000
namespace Go.Proofs.YtkbjibhkaddepaaGreatDoor.evaluateReasons
open Go Go.RowKit Go.Fl Go.ChangeShapes Go.WideShapes Go.ChangeAt
open Go.ChangeMaps (open_string shut_string)
theorem y7k:(Rows.evaluateReasonsRow.inPlace==Tryz.pinned.checked.prog.inPlace 7)=true:=by kernel_rfl
theorem kUnf:(Rows.evaluateReasonsRow.unfollowed==Tryz.pinned.checked.prog.unfollowed 7)=true:=by kernel_rfl
theorem kRec:(Rows.evaluateReasonsRow.recurses==Tryz.pinned.checked.prog.recurses 7)=true:=by kernel_rfl
theorem u3z:(Rows.evaluateReasonsRow.named==Tryz.pinned.checked.prog.varsNamed 7)=true:=by kernel_rfl
theorem closed:joinedFacts Tryz.pinned.checked.prog 7 Tryz.f7 (OpenSpec.ofChange Rows.evaluateReasonsSpec).bare Rows.evaluateReasonsRow=true:=by
 unfold joinedFacts
 rw[y7k,kUnf,kRec,u3z]
 kernel_rfl
theorem said:Rows.EvaluateReasonsSaid:=
 OpenClaim.holds_of_cond 7 Tryz.f7 rfl rfl rfl rfl rfl rfl rfl ⟨rfl,rfl,rfl,rfl,rfl⟩ rfl rfl rfl rfl rfl (by kernel_rfl) Tryz.func7 closed
  (of_decide_eq_true (by kernel_rfl)) (by unfold Func.isWrapper;first|(rw[if_pos (by decide+kernel)];kernel_rfl)|(rw[if_neg (by decide+kernel)];exact⟨rfl,rfl⟩))
  (fun os started H enc _ F=>by rw[OpenClaim.pre_eq_preRow];exact lifted os started H enc F)
end Go.Proofs.YtkbjibhkaddepaaGreatDoor.evaluateReasons
end
