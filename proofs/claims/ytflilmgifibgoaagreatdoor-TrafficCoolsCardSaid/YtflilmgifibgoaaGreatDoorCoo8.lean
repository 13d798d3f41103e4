/- TrafficCools This is part 8 of 10. Conditions: those in the statements. -/
import Derived.Test.YtflilmgifibgoaaGreatDoorRows
import Derived.Test.YtflilmgifibgoaaGreatDoorCoo7
import Derived.KernelRfl
import Derived.WalkKit
import Derived.ProofKit
import Derived.OpenShut
import Derived.Deep.DeepHandedRow
import Derived.Deep.DeepWitnessRowRef
import Derived.Lay
import Derived.SevenTiedAt
noncomputable section
set_option maxRecDepth 100000
namespace Go.Proofs.YtflilmgifibgoaaGreatDoor.trafficCools
open Go Go.RowKit Go.Fl Go.ChangeShapes Go.WideShapes Go.ChangeAt
theorem w7l:(Rows.trafficCoolsRow.inPlace==Tryz.pinned.checked.prog.inPlace 4)=true:=by kernel_rfl
theorem kUnf:(Rows.trafficCoolsRow.unfollowed==Tryz.pinned.checked.prog.unfollowed 4)=true:=by kernel_rfl
theorem kRec:(Rows.trafficCoolsRow.recurses==Tryz.pinned.checked.prog.recurses 4)=true:=by kernel_rfl
theorem v2q:(Rows.trafficCoolsRow.named==Tryz.pinned.checked.prog.varsNamed 4)=true:=by kernel_rfl
theorem closed:joinedFacts Tryz.pinned.checked.prog 4 Tryz.f4 (OpenSpec.ofChange Rows.trafficCoolsSpec).bare Rows.trafficCoolsRow=true:=by
 unfold joinedFacts
 rw[w7l,kUnf,kRec,v2q]
 kernel_rfl
theorem said:Rows.TrafficCoolsSaid:=
 OpenClaim.holds_of_cond 4 Tryz.f4 rfl rfl rfl rfl rfl rfl rfl ⟨rfl,rfl,rfl,rfl,rfl⟩ rfl rfl rfl rfl rfl (by kernel_rfl) Tryz.func4 closed
  (of_decide_eq_true (by kernel_rfl)) (by unfold Func.isWrapper;first|(rw[if_pos (by decide+kernel)];kernel_rfl)|(rw[if_neg (by decide+kernel)];exact⟨rfl,rfl⟩))
  (fun os started H enc _ F=>by rw[OpenClaim.pre_eq_preRow];exact lifted os started H enc F)
end Go.Proofs.YtflilmgifibgoaaGreatDoor.trafficCools
end
