/- The functions of this part do what their plain meanings say. Conditions: none. -/
import Derived.Test.YtkfcnibjlmiboaaLwC
import Derived.KernelRfl
import Derived.Conc.MuLone
open Go Go.RowKit Go.Fl Go.Fl.Lk Go.Fx
namespace Go.Dg5
theorem ent_lFull : Ent Go.Proofs.Try.prog 3 := ent_of (fn := (Go.Proofs.Try.prog.funcs[3]?).getD default) (c := ((Go.Proofs.Try.prog.funcs[3]?).getD default).body.getD .skip) (by kernel_rfl) (by kernel_rfl) (by kernel_rfl)
noncomputable def pl_lFull : Nat → Option (Fx.Spec Sg) := findN ([(23, ⟨[0, 3, 5, 9, 10, 11, 12, 13, 14, 15, 16, 17, 18, 19], [], [(0, (55, 3))], [(.slot 4, .int IntKind.i64), (.slot 6, .int IntKind.i64), (.cell 0 0, .own 47 C.node), (.cell 0 2, .bool), (.obj 2, .map C.node C.i64)]⟩), (17, ⟨[0, 3, 9, 10, 11, 12, 13], [], [(0, (55, 3))], [(.slot 4, .int IntKind.i64), (.slot 5, .int IntKind.i64), (.cell 0 0, .own 47 C.node), (.cell 0 2, .bool), (.obj 2, .map C.node C.i64)]⟩), (41, ⟨[0, 3, 4, 5, 7, 9, 10, 11, 12, 13, 14, 15, 16, 17, 18, 19, 39, 40, 41, 42, 43, 44, 45, 46, 47], [], [(0, (55, 3))], [(.slot 8, .int IntKind.i64), (.cell 0 0, .own 47 C.node), (.cell 0 2, .bool), (.obj 2, .map C.node C.i64)]⟩)] : List (Nat × Fx.Spec Sg))
theorem eq_lFull (more : Int) (K : Bool → Prop) : P_lFull more K = fnV (E_add.pl pl_lFull) 0 3 ([.v] : List (PK Sg)) ([.v] : List (PK Sg)) ([.int .i64] : List (VT Sg)) ([.bool] : List (VT Sg)) ([.same] : List (VT Sg)) (more, ()) (fun r o => K r.1) := by kernel_rfl
noncomputable def c_lFull : Con Sg := conV ([.v] : List (PK Sg)) ([.int .i64] : List (VT Sg)) ([.bool] : List (VT Sg)) ([.same] : List (VT Sg)) fun a K => P_lFull a.1 (fun q0 => K (q0, ()) ((), ()))
theorem m_lFull : Meets E_add.P E_add.D 3 c_lFull := by
  have h : c_lFull = conV ([.v] : List (PK Sg)) ([.int .i64] : List (VT Sg)) ([.bool] : List (VT Sg)) ([.same] : List (VT Sg)) (fnV (E_add.pl pl_lFull) 0 3 ([.v] : List (PK Sg)) ([.v] : List (PK Sg)) ([.int .i64] : List (VT Sg)) ([.bool] : List (VT Sg)) ([.same] : List (VT Sg))) := congrArg (conV ([.v] : List (PK Sg)) ([.int .i64] : List (VT Sg)) ([.bool] : List (VT Sg)) ([.same] : List (VT Sg))) (funext fun a => funext fun K => eq_lFull a.1 (fun q0 => K (q0, ()) ((), ())))
  refine pl_meets (p := pl_lFull) ?_
  rw [h]
  exact meetsV (pl_ok ok_E_add pl_lFull) 0 3 _ _ _ _ _
noncomputable def E_lFull : Ev Sg := E_add.with 3 c_lFull
theorem ok_E_lFull : EvOk E_lFull := with_ok ok_E_add ent_lFull m_lFull

end Go.Dg5
