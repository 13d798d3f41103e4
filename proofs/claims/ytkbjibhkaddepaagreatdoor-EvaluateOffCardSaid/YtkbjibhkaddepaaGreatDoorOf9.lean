/- EvaluateOff: a flag that is switched off serves its off variation, flags that need it fail, and switching it on restores every decision This is part 9 of 10. Conditions: those in the statements. -/
import Derived.Test.YtkbjibhkaddepaaGreatDoorRows
import Derived.Test.YtkbjibhkaddepaaGreatDoorOf8
import Derived.KernelRfl
import Derived.WalkKit
import Derived.ProofKit
import Derived.OpenShut
import Derived.Deep.DeepHandedRow
import Derived.Deep.DeepWitnessRowRef
import Derived.Lay
import Derived.SevenTiedAt
noncomputable section
set_option maxRecDepth 100000
namespace Go.Proofs.YtkbjibhkaddepaaGreatDoor.evaluateOff
open Go Go.RowKit Go.Fl Go.ChangeShapes Go.WideShapes Go.ChangeAt
open Go.ChangeMaps (open_string shut_string)
theorem y9u:false=Rows.evaluateOffRow.goesBy Tryz.pinned.checked.prog:=by kernel_rfl
theorem kWf:Rows.evaluateOffRow.wfByText (OpenSpec.ofChange Rows.evaluateOffSpec)=true:=by kernel_rfl
theorem plain (f:FuncId) (fn:Func) (hf:Tryz.pinned.checked.prog.funcNamed "flagstone/flagstonelaw16.EvaluateOff" =some f) (hfn:Tryz.pinned.checked.prog.funcs[f]? =some fn):
  true=Tryz.pinned.checked.prog.looks []/\ ∀(j:Nat) t,fn.params[j]? =some t->Tryz.pinned.checked.prog.wantsStandIn t=false:=by
 obtain rfl:f=8:=Option.some.inj ((show Tryz.prog.funcNamed "flagstone/flagstonelaw16.EvaluateOff" =some 8 by kernel_rfl).symm.trans hf)|>.symm
 obtain rfl:fn=Tryz.f8:=(Option.some.inj (Tryz.func8.symm.trans hfn)).symm
 refine⟨by kernel_rfl,fun j t ht=> ?_⟩
 rw[Tryz.params8] at ht
 match j with
 |0=>cases ht;exact (show Tryz.prog.wantsStandIn 22=false by kernel_rfl)
 |1=>cases ht;exact (show Tryz.prog.wantsStandIn 22=false by kernel_rfl)
 |2=>cases ht;exact (show Tryz.prog.wantsStandIn 3=false by kernel_rfl)
 |j+3=>cases ht
end Go.Proofs.YtkbjibhkaddepaaGreatDoor.evaluateOff
end
