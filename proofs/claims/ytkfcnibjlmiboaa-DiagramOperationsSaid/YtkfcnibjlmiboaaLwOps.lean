/- The function of this part does what its plain meaning says. Conditions: none. -/
import Derived.Test.YtkfcnibjlmiboaaLx
import Derived.Test.YtkfcnibjlmiboaaPuL
import Derived.Test.YtkfcnibjlmiboaaLwM
import Derived.KernelRfl
import Derived.Conc.MuLone
open Go Go.RowKit Go.Fl Go.Fl.Lk Go.Fx
namespace Go.Dg5
theorem ent_lOps : Ent Go.Proofs.Try.prog 4 := ent_of (fn := (Go.Proofs.Try.prog.funcs[4]?).getD default) (c := ((Go.Proofs.Try.prog.funcs[4]?).getD default).body.getD .skip) (by kernel_rfl) (by kernel_rfl) (by kernel_rfl)
noncomputable def c_lOps : Con Sg := conV ([.sl C.u8] : List (PK Sg)) ([.sl C.u8] : List (VT Sg)) ([.bool] : List (VT Sg)) ([.same] : List (VT Sg)) fun a K => P_lOps a.1 (fun q0 => K (q0, ()) ((), ()))
noncomputable def pl_lOps : Nat → Option (Fx.Spec Sg) := findN ([] : List (Nat × Fx.Spec Sg))
noncomputable def EX_lOps (X_awake : (Bool → Prop) → Prop) (X_made : List (Int) → Int → (List (Int × Int × Int) → (Int × Int × Int → Option (Int)) → Bool → List (Int × Int × Int) → (Int × Int × Int → Option (Int)) → Bool → List (Int × Int) → Bool → Prop) → Prop) : Ev Sg := ((E0.with 9 (conV ([] : List (PK Sg)) ([] : List (VT Sg)) ([.bool] : List (VT Sg)) ([] : List (VT Sg)) (fun _ K => X_awake (fun q0 => K (q0, ()) ())))).with 15 (conV ([.sl C.u8, .v] : List (PK Sg)) ([.sl C.u8, .int .i64] : List (VT Sg)) ([.ptr 33 [.ptr 55 [.vec 47 C.node, .map C.node C.i64, .bool], .ptr 61 [.vec 47 C.node, .map C.node C.i64, .bool], .vec 42 C.pair, .bool]] : List (VT Sg)) ([.same, .same] : List (VT Sg)) (fun a K => X_made a.1 a.2.1 (fun q0 q1 q2 q3 q4 q5 q6 q7 => K (((q0, q1, q2, ()), (q3, q4, q5, ()), q6, q7, ()), ()) ((), (), ())))))
theorem eqS_lOps (X_awake : (Bool → Prop) → Prop) (X_made : List (Int) → Int → (List (Int × Int × Int) → (Int × Int × Int → Option (Int)) → Bool → List (Int × Int × Int) → (Int × Int × Int → Option (Int)) → Bool → List (Int × Int) → Bool → Prop) → Prop) (codes : List (Int)) (K : Bool → Prop) : S_lOps X_awake X_made codes K = fnV ((EX_lOps X_awake X_made).pl pl_lOps) 0 4 ([.sl C.u8] : List (PK Sg)) ([.v] : List (PK Sg)) ([.sl C.u8] : List (VT Sg)) ([.bool] : List (VT Sg)) ([.same] : List (VT Sg)) (codes, ()) (fun r _ => K r.1) := by kernel_rfl
theorem n_lOps : Meets Go.Proofs.Try.prog D 4 c_lOps := meets3 (E := EX_lOps P_awake P_made) (with3 (with3 h_E0 ent_awake n_awake) ent_made n_made) fun a K => eqS_lOps P_awake P_made a.1 (fun q0 => K (q0, ()) ((), ()))

end Go.Dg5
