/- In words: other rules and another default change nothing for a subject that is targeted, in an experiment of the flag, or fails a prerequisite; for every input the law returns true. This is part 9 of 10. Conditions: those in the statements. -/
import Derived.Test.YtkbjibhkaddepaaGreatDoorRows
import Derived.Test.YtkbjibhkaddepaaGreatDoorRu8
import Derived.KernelRfl
import Derived.WalkKit
import Derived.ProofKit
import Derived.OpenShut
import Derived.Deep.DeepHandedRow
import Derived.Deep.DeepWitnessRowRef
import Derived.Lay
import Derived.SevenTiedAt
noncomputable section
set_option maxRecDepth 100000
namespace Go.Proofs.YtkbjibhkaddepaaGreatDoor.evaluateRules
open Go Go.RowKit Go.Fl Go.ChangeShapes Go.WideShapes Go.ChangeAt
open Go.ChangeMaps (open_string shut_string)
theorem y2r:(Rows.evaluateRulesRow.inPlace==Tryz.pinned.checked.prog.inPlace 5)=true:=by kernel_rfl
theorem kUnf:(Rows.evaluateRulesRow.unfollowed==Tryz.pinned.checked.prog.unfollowed 5)=true:=by kernel_rfl
theorem kRec:(Rows.evaluateRulesRow.recurses==Tryz.pinned.checked.prog.recurses 5)=true:=by kernel_rfl
theorem y88:(Rows.evaluateRulesRow.named==Tryz.pinned.checked.prog.varsNamed 5)=true:=by kernel_rfl
theorem closed:joinedFacts Tryz.pinned.checked.prog 5 Tryz.f5 (OpenSpec.ofChange Rows.evaluateRulesSpec).bare Rows.evaluateRulesRow=true:=by
 unfold joinedFacts
 rw[y2r,kUnf,kRec,y88]
 kernel_rfl
theorem said:Rows.EvaluateRulesSaid:=
 OpenClaim.holds_of_cond 5 Tryz.f5 rfl rfl rfl rfl rfl rfl rfl ⟨rfl,rfl,rfl,rfl,rfl⟩ rfl rfl rfl rfl rfl (by kernel_rfl) Tryz.func5 closed
  (of_decide_eq_true (by kernel_rfl)) (by unfold Func.isWrapper;first|(rw[if_pos (by decide+kernel)];kernel_rfl)|(rw[if_neg (by decide+kernel)];exact⟨rfl,rfl⟩))
  (fun os started H enc _ F=>by rw[OpenClaim.pre_eq_preRow];exact lifted os started H enc F)
end Go.Proofs.YtkbjibhkaddepaaGreatDoor.evaluateRules
end
