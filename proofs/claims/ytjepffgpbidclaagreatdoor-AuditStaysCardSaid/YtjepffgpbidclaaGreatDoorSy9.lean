/- For every input AuditStays returns true and leaves its arguments as they were. This is part 9 of 10. Conditions: those in the statements. -/
import Derived.Test.YtjepffgpbidclaaGreatDoorRows
import Derived.Test.YtjepffgpbidclaaGreatDoorSy8
import Derived.KernelRfl
import Derived.WalkKit
import Derived.ProofKit
import Derived.OpenShut
import Derived.Deep.DeepHandedRow
import Derived.Deep.DeepWitnessRowRef
import Derived.Lay
import Derived.SevenTiedAt
noncomputable section
set_option maxRecDepth 100000
namespace Go.Proofs.YtjepffgpbidclaaGreatDoor.auditStays
open Go Go.RowKit Go.Fl Go.ChangeShapes Go.WideShapes Go.ChangeAt
open Go.ChangeMaps (open_string shut_string)
theorem v2w:false=Rows.auditStaysRow.goesBy Tryz.pinned.checked.prog:=by kernel_rfl
theorem kWf:Rows.auditStaysRow.wfByText (OpenSpec.ofChange Rows.auditStaysSpec)=true:=by kernel_rfl
theorem plain (f:FuncId) (fn:Func) (hf:Tryz.pinned.checked.prog.funcNamed "flagstone/flagstonelaw44.AuditStays" =some f) (hfn:Tryz.pinned.checked.prog.funcs[f]? =some fn):
  true=Tryz.pinned.checked.prog.looks []/\ ∀(j:Nat) t,fn.params[j]? =some t->Tryz.pinned.checked.prog.wantsStandIn t=false:=by
 obtain rfl:f=8:=Option.some.inj ((show Tryz.prog.funcNamed "flagstone/flagstonelaw44.AuditStays" =some 8 by kernel_rfl).symm.trans hf)|>.symm
 obtain rfl:fn=Tryz.f8:=(Option.some.inj (Tryz.func8.symm.trans hfn)).symm
 refine⟨by kernel_rfl,fun j t ht=> ?_⟩
 rw[Tryz.params8] at ht
 match j with
 |0=>cases ht;exact (show Tryz.prog.wantsStandIn 24=false by kernel_rfl)
 |1=>cases ht;exact (show Tryz.prog.wantsStandIn 50=false by kernel_rfl)
 |2=>cases ht;exact (show Tryz.prog.wantsStandIn 5=false by kernel_rfl)
 |3=>cases ht;exact (show Tryz.prog.wantsStandIn 4=false by kernel_rfl)
 |j+4=>cases ht
end Go.Proofs.YtjepffgpbidclaaGreatDoor.auditStays
end
