/- CheckConditions: the diagram of a condition stands for its truth by the atoms This is part 8 of 9. Conditions: those in the statements. -/
import Derived.Test.YtlmjknifmlifiaaGreatDoorRows
import Derived.Test.YtlmjknifmlifiaaGreatDoorCo7
import Derived.KernelRfl
import Derived.WalkKit
import Derived.ProofKit
import Derived.OpenShut
import Derived.Deep.DeepHandedRow
import Derived.Deep.DeepWitnessRowRef
import Derived.Lay
import Derived.SevenTiedAt
noncomputable section
set_option maxRecDepth 100000
namespace Go.Proofs.YtlmjknifmlifiaaGreatDoor.checkConditions
open Go Go.RowKit Go.Fl Go.ChangeShapes Go.WideShapes Go.ChangeAt
open Go.ChangeMaps (open_string shut_string)
theorem w01:false=Rows.checkConditionsRow.goesBy Tryz.pinned.checked.prog:=by kernel_rfl
theorem kWf:Rows.checkConditionsRow.wfByText (OpenSpec.ofChange Rows.checkConditionsSpec)=true:=by kernel_rfl
theorem plain (f:FuncId) (fn:Func) (hf:Tryz.pinned.checked.prog.funcNamed "flagstone/flagstonelaw18.CheckConditions" =some f) (hfn:Tryz.pinned.checked.prog.funcs[f]? =some fn):
  true=Tryz.pinned.checked.prog.looks []/\ ∀(j:Nat) t,fn.params[j]? =some t->Tryz.pinned.checked.prog.wantsStandIn t=false:=by
 obtain rfl:f=6:=Option.some.inj ((show Tryz.prog.funcNamed "flagstone/flagstonelaw18.CheckConditions" =some 6 by kernel_rfl).symm.trans hf)|>.symm
 obtain rfl:fn=Tryz.f6:=(Option.some.inj (Tryz.func6.symm.trans hfn)).symm
 refine⟨by kernel_rfl,fun j t ht=> ?_⟩
 rw[Tryz.params6] at ht
 match j with
 |0=>cases ht;exact (show Tryz.prog.wantsStandIn 22=false by kernel_rfl)
 |1=>cases ht;exact (show Tryz.prog.wantsStandIn 3=false by kernel_rfl)
 |2=>cases ht;exact (show Tryz.prog.wantsStandIn 3=false by kernel_rfl)
 |j+3=>cases ht
end Go.Proofs.YtlmjknifmlifiaaGreatDoor.checkConditions
end
