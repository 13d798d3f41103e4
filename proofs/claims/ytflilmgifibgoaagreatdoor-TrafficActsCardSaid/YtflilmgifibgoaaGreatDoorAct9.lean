/- TrafficActs This is part 9 of 10. Conditions: those in the statements. -/
import Derived.Test.YtflilmgifibgoaaGreatDoorRows
import Derived.Test.YtflilmgifibgoaaGreatDoorAct8
import Derived.KernelRfl
import Derived.WalkKit
import Derived.ProofKit
import Derived.OpenShut
import Derived.Deep.DeepHandedRow
import Derived.Deep.DeepWitnessRowRef
import Derived.Lay
import Derived.SevenTiedAt
noncomputable section
set_option maxRecDepth 100000
namespace Go.Proofs.YtflilmgifibgoaaGreatDoor.trafficActs
open Go Go.RowKit Go.Fl Go.ChangeShapes Go.WideShapes Go.ChangeAt
theorem y1i:false=Rows.trafficActsRow.goesBy Tryz.pinned.checked.prog:=by kernel_rfl
theorem kWf:Rows.trafficActsRow.wfByText (OpenSpec.ofChange Rows.trafficActsSpec)=true:=by kernel_rfl
theorem plain (f:FuncId) (fn:Func) (hf:Tryz.pinned.checked.prog.funcNamed "flagstone/flagstonelaw14.TrafficActs" =some f) (hfn:Tryz.pinned.checked.prog.funcs[f]? =some fn):
  false=Tryz.pinned.checked.prog.looks []/\ ∀(j:Nat) t,fn.params[j]? =some t->Tryz.pinned.checked.prog.wantsStandIn t=false:=by
 obtain rfl:f=5:=Option.some.inj ((show Tryz.prog.funcNamed "flagstone/flagstonelaw14.TrafficActs" =some 5 by kernel_rfl).symm.trans hf)|>.symm
 obtain rfl:fn=Tryz.f5:=(Option.some.inj (Tryz.func5.symm.trans hfn)).symm
 refine⟨by kernel_rfl,fun j t ht=> ?_⟩
 rw[Tryz.params5] at ht
 match j with
 |0=>cases ht;exact (show Tryz.prog.wantsStandIn 22=false by kernel_rfl)
 |1=>cases ht;exact (show Tryz.prog.wantsStandIn 3=false by kernel_rfl)
 |2=>cases ht;exact (show Tryz.prog.wantsStandIn 3=false by kernel_rfl)
 |3=>cases ht;exact (show Tryz.prog.wantsStandIn 3=false by kernel_rfl)
 |j+4=>cases ht
end Go.Proofs.YtflilmgifibgoaaGreatDoor.trafficActs
end
