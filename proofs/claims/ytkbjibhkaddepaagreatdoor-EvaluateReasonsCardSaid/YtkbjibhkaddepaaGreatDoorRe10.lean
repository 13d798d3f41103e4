/- In words: each decision has a value of its type, and its reason is true; for every input the law returns true. This is part 10 of 11. Conditions: those in the statements. -/
import Derived.Test.YtkbjibhkaddepaaGreatDoorRows
import Derived.Test.YtkbjibhkaddepaaGreatDoorRe9
import Derived.KernelRfl
import Derived.WalkKit
import Derived.ProofKit
import Derived.OpenShut
import Derived.Deep.DeepHandedRow
import Derived.Deep.DeepWitnessRowRef
import Derived.Lay
import Derived.SevenTiedAt
noncomputable section
set_option maxRecDepth 100000
namespace Go.Proofs.YtkbjibhkaddepaaGreatDoor.evaluateReasons
open Go Go.RowKit Go.Fl Go.ChangeShapes Go.WideShapes Go.ChangeAt
open Go.ChangeMaps (open_string shut_string)
theorem u5m:false=Rows.evaluateReasonsRow.goesBy Tryz.pinned.checked.prog:=by kernel_rfl
theorem kWf:Rows.evaluateReasonsRow.wfByText (OpenSpec.ofChange Rows.evaluateReasonsSpec)=true:=by kernel_rfl
theorem plain (f:FuncId) (fn:Func) (hf:Tryz.pinned.checked.prog.funcNamed "flagstone/flagstonelaw16.EvaluateReasons" =some f) (hfn:Tryz.pinned.checked.prog.funcs[f]? =some fn):
  true=Tryz.pinned.checked.prog.looks []/\ ∀(j:Nat) t,fn.params[j]? =some t->Tryz.pinned.checked.prog.wantsStandIn t=false:=by
 obtain rfl:f=7:=Option.some.inj ((show Tryz.prog.funcNamed "flagstone/flagstonelaw16.EvaluateReasons" =some 7 by kernel_rfl).symm.trans hf)|>.symm
 obtain rfl:fn=Tryz.f7:=(Option.some.inj (Tryz.func7.symm.trans hfn)).symm
 refine⟨by kernel_rfl,fun j t ht=> ?_⟩
 rw[Tryz.params7] at ht
 match j with
 |0=>cases ht;exact (show Tryz.prog.wantsStandIn 22=false by kernel_rfl)
 |1=>cases ht;exact (show Tryz.prog.wantsStandIn 22=false by kernel_rfl)
 |j+2=>cases ht
end Go.Proofs.YtkbjibhkaddepaaGreatDoor.evaluateReasons
end
