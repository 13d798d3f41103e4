/- The functions of this part do what their plain meanings say. Conditions: none. -/
import Derived.Test.YtkfcnibjlmiboaaSh
import Derived.Test.YtkfcnibjlmiboaaPu
import Derived.Test.YtkfcnibjlmiboaaLwA
import Derived.Test.YtkfcnibjlmiboaaLwBC
import Derived.KernelRfl
import Derived.Conc.MuLone
open Go Go.RowKit Go.Fl Go.Fl.Lk Go.Fx
namespace Go.Dg5
noncomputable def X_pNew : Ev Sg := E_rNot.with 10 c_pNew
theorem ok_X_pNew : EvOk X_pNew := with_ok ok_E_rNot ent_pNew m_pNew
noncomputable def X_pLeaf : Ev Sg := X_pNew.with 17 c_pLeaf
theorem ok_X_pLeaf : EvOk X_pLeaf := with_ok ok_X_pNew ent_pLeaf m_pLeaf
noncomputable def X_pvalid : Ev Sg := X_pLeaf.with 34 c_pvalid
theorem ok_X_pvalid : EvOk X_pvalid := with_ok ok_X_pLeaf ent_pvalid m_pvalid
noncomputable def X_ptest : Ev Sg := X_pvalid.with 35 c_ptest
theorem ok_X_ptest : EvOk X_ptest := with_ok ok_X_pvalid ent_ptest m_ptest
noncomputable def X_pNode : Ev Sg := X_ptest.with 11 c_pNode
theorem ok_X_pNode : EvOk X_pNode := with_ok ok_X_ptest ent_pNode m_pNode
noncomputable def X_leaf : Ev Sg := X_pNode.with 55 c_leaf
theorem ok_X_leaf : EvOk X_leaf := with_ok ok_X_pNode ent_leaf m_leaf
noncomputable def X_pcof : Ev Sg := X_leaf.with 56 c_pcof
theorem ok_X_pcof : EvOk X_pcof := with_ok ok_X_leaf ent_pcof m_pcof
noncomputable def X_pRun : Ev Sg := X_pcof.with 14 c_pRun
theorem ok_X_pRun : EvOk X_pRun := with_ok ok_X_pcof ent_pRun m_pRun
noncomputable def X_pAt : Ev Sg := X_pRun.with 33 c_pAt
theorem ok_X_pAt : EvOk X_pAt := with_ok ok_X_pRun ent_pAt m_pAt
noncomputable def X_pFull : Ev Sg := X_pAt.with 13 c_pFull
theorem ok_X_pFull : EvOk X_pFull := with_ok ok_X_pAt ent_pFull m_pFull
noncomputable def X_preach : Ev Sg := X_pFull.with 49 c_preach
theorem ok_X_preach : EvOk X_preach := with_ok ok_X_pFull ent_preach m_preach
noncomputable def X_pSize : Ev Sg := X_preach.with 31 c_pSize
theorem ok_X_pSize : EvOk X_pSize := with_ok ok_X_preach ent_pSize m_pSize
noncomputable def X_pLeaves : Ev Sg := X_pSize.with 30 c_pLeaves
theorem ok_X_pLeaves : EvOk X_pLeaves := with_ok ok_X_pSize ent_pLeaves m_pLeaves
noncomputable def X_pcond : Ev Sg := X_pLeaves.with 43 c_pcond
theorem ok_X_pcond : EvOk X_pcond := with_ok ok_X_pLeaves ent_pcond m_pcond
noncomputable def X_pchoose : Ev Sg := X_pcond.with 45 c_pchoose
theorem ok_X_pchoose : EvOk X_pchoose := with_ok ok_X_pcond ent_pchoose m_pchoose
noncomputable def X_pChoose : Ev Sg := X_pchoose.with 26 c_pChoose
theorem ok_X_pChoose : EvOk X_pChoose := with_ok ok_X_pchoose ent_pChoose m_pChoose
noncomputable def X_pAnd : Ev Sg := X_pChoose.with 22 c_pAnd
theorem ok_X_pAnd : EvOk X_pAnd := with_ok ok_X_pChoose ent_pAnd m_pAnd
noncomputable def X_pOr : Ev Sg := X_pAnd.with 24 c_pOr
theorem ok_X_pOr : EvOk X_pOr := with_ok ok_X_pAnd ent_pOr m_pOr
noncomputable def X_pNot : Ev Sg := X_pOr.with 20 c_pNot
theorem ok_X_pNot : EvOk X_pNot := with_ok ok_X_pOr ent_pNot m_pNot
theorem ent_awake : Ent Go.Proofs.Try.prog 9 := ent_of (fn := (Go.Proofs.Try.prog.funcs[9]?).getD default) (c := ((Go.Proofs.Try.prog.funcs[9]?).getD default).body.getD .skip) (by kernel_rfl) (by kernel_rfl) (by kernel_rfl)
theorem ent_add : Ent Go.Proofs.Try.prog 37 := ent_of (fn := (Go.Proofs.Try.prog.funcs[37]?).getD default) (c := ((Go.Proofs.Try.prog.funcs[37]?).getD default).body.getD .skip) (by kernel_rfl) (by kernel_rfl) (by kernel_rfl)
noncomputable def pl_awake : Nat → Option (Fx.Spec Sg) := findN ([] : List (Nat × Fx.Spec Sg))
theorem eq_awake  (K : Bool → Prop) : P_awake  K = fnV (X_pNot.pl pl_awake) 0 9 ([] : List (PK Sg)) ([.v] : List (PK Sg)) ([] : List (VT Sg)) ([.bool] : List (VT Sg)) ([] : List (VT Sg)) () (fun r _ => K r.1) := by kernel_rfl
noncomputable def c_awake : Con Sg := conV ([] : List (PK Sg)) ([] : List (VT Sg)) ([.bool] : List (VT Sg)) ([] : List (VT Sg)) fun _ K => P_awake (fun q0 => K (q0, ()) ())
theorem m_awake : Meets X_pNot.P X_pNot.D 9 c_awake := by
  have h : c_awake = conV ([] : List (PK Sg)) ([] : List (VT Sg)) ([.bool] : List (VT Sg)) ([] : List (VT Sg)) (fnV (X_pNot.pl pl_awake) 0 9 ([] : List (PK Sg)) ([.v] : List (PK Sg)) ([] : List (VT Sg)) ([.bool] : List (VT Sg)) ([] : List (VT Sg))) := congrArg (conV ([] : List (PK Sg)) ([] : List (VT Sg)) ([.bool] : List (VT Sg)) ([] : List (VT Sg))) (funext fun a => funext fun K => eq_awake (fun q0 => K (q0, ()) ()))
  refine pl_meets (p := pl_awake) ?_
  rw [h]
  exact meetsV (pl_ok ok_X_pNot pl_awake) 0 9 _ _ _ _ _
noncomputable def E_awake : Ev Sg := X_pNot.with 9 c_awake
theorem ok_E_awake : EvOk E_awake := with_ok ok_X_pNot ent_awake m_awake
noncomputable def pl_add : Nat → Option (Fx.Spec Sg) := findN ([(4, ⟨[0, 1, 2], [1, 2, 3, 4, 5, 6, 7], [(0, (33, 4))], [(.cell 0 3, .bool)]⟩), (9, ⟨[0, 1, 2, 16, 17, 18, 19, 20, 21, 22, 23, 24, 25, 26, 27, 28], [7], [(0, (33, 4)), (1, (55, 3)), (4, (61, 3))], [(.slot 6, .int IntKind.i64), (.cell 0 3, .bool), (.cell 1 0, .own 47 C.node), (.cell 1 2, .bool), (.cell 4 0, .own 47 C.node), (.cell 4 2, .bool), (.obj 3, .map C.node C.i64), (.obj 6, .map C.node C.i64)]⟩)] : List (Nat × Fx.Spec Sg))
theorem eq_add (pns : List (Int × Int × Int)) (pids : (Int × Int × Int → Option (Int))) (pfull : Bool) (rns : List (Int × Int × Int)) (rids : (Int × Int × Int → Option (Int))) (rfull : Bool) (all : List (Int × Int)) (same : Bool) (p : Int) (r : Int) (K : List (Int × Int × Int) → (Int × Int × Int → Option (Int)) → Bool → List (Int × Int × Int) → (Int × Int × Int → Option (Int)) → Bool → List (Int × Int) → Bool → Prop) : P_add pns pids pfull rns rids rfull all same p r K = fnV (E_awake.pl pl_add) 0 37 ([.ptr 33 [.ptr 55 [.own 47 C.node, .map C.node C.i64, .v], .ptr 61 [.own 47 C.node, .map C.node C.i64, .v], .own 42 C.pair, .v], .v, .v] : List (PK Sg)) ([] : List (PK Sg)) ([.ptr 33 [.ptr 55 [.vec 47 C.node, .map C.node C.i64, .bool], .ptr 61 [.vec 47 C.node, .map C.node C.i64, .bool], .vec 42 C.pair, .bool], .int .i64, .int .i64] : List (VT Sg)) ([] : List (VT Sg)) ([.ptr 33 [.ptr 55 [.vec 47 C.node, .map C.node C.i64, .bool], .ptr 61 [.vec 47 C.node, .map C.node C.i64, .bool], .vec 42 C.pair, .bool], .same, .same] : List (VT Sg)) (((pns, pids, pfull, ()), (rns, rids, rfull, ()), all, same, ()), p, r, ()) (fun _ o => K o.1.1.1 o.1.1.2.1 o.1.1.2.2.1 o.1.2.1.1 o.1.2.1.2.1 o.1.2.1.2.2.1 o.1.2.2.1 o.1.2.2.2.1) := by kernel_rfl
noncomputable def c_add : Con Sg := conV ([.ptr 33 [.ptr 55 [.own 47 C.node, .map C.node C.i64, .v], .ptr 61 [.own 47 C.node, .map C.node C.i64, .v], .own 42 C.pair, .v], .v, .v] : List (PK Sg)) ([.ptr 33 [.ptr 55 [.vec 47 C.node, .map C.node C.i64, .bool], .ptr 61 [.vec 47 C.node, .map C.node C.i64, .bool], .vec 42 C.pair, .bool], .int .i64, .int .i64] : List (VT Sg)) ([] : List (VT Sg)) ([.ptr 33 [.ptr 55 [.vec 47 C.node, .map C.node C.i64, .bool], .ptr 61 [.vec 47 C.node, .map C.node C.i64, .bool], .vec 42 C.pair, .bool], .same, .same] : List (VT Sg)) fun a K => P_add a.1.1.1 a.1.1.2.1 a.1.1.2.2.1 a.1.2.1.1 a.1.2.1.2.1 a.1.2.1.2.2.1 a.1.2.2.1 a.1.2.2.2.1 a.2.1 a.2.2.1 (fun q0 q1 q2 q3 q4 q5 q6 q7 => K () (((q0, q1, q2, ()), (q3, q4, q5, ()), q6, q7, ()), (), (), ()))
theorem m_add : Meets E_awake.P E_awake.D 37 c_add := by
  have h : c_add = conV ([.ptr 33 [.ptr 55 [.own 47 C.node, .map C.node C.i64, .v], .ptr 61 [.own 47 C.node, .map C.node C.i64, .v], .own 42 C.pair, .v], .v, .v] : List (PK Sg)) ([.ptr 33 [.ptr 55 [.vec 47 C.node, .map C.node C.i64, .bool], .ptr 61 [.vec 47 C.node, .map C.node C.i64, .bool], .vec 42 C.pair, .bool], .int .i64, .int .i64] : List (VT Sg)) ([] : List (VT Sg)) ([.ptr 33 [.ptr 55 [.vec 47 C.node, .map C.node C.i64, .bool], .ptr 61 [.vec 47 C.node, .map C.node C.i64, .bool], .vec 42 C.pair, .bool], .same, .same] : List (VT Sg)) (fnV (E_awake.pl pl_add) 0 37 ([.ptr 33 [.ptr 55 [.own 47 C.node, .map C.node C.i64, .v], .ptr 61 [.own 47 C.node, .map C.node C.i64, .v], .own 42 C.pair, .v], .v, .v] : List (PK Sg)) ([] : List (PK Sg)) ([.ptr 33 [.ptr 55 [.vec 47 C.node, .map C.node C.i64, .bool], .ptr 61 [.vec 47 C.node, .map C.node C.i64, .bool], .vec 42 C.pair, .bool], .int .i64, .int .i64] : List (VT Sg)) ([] : List (VT Sg)) ([.ptr 33 [.ptr 55 [.vec 47 C.node, .map C.node C.i64, .bool], .ptr 61 [.vec 47 C.node, .map C.node C.i64, .bool], .vec 42 C.pair, .bool], .same, .same] : List (VT Sg))) := congrArg (conV ([.ptr 33 [.ptr 55 [.own 47 C.node, .map C.node C.i64, .v], .ptr 61 [.own 47 C.node, .map C.node C.i64, .v], .own 42 C.pair, .v], .v, .v] : List (PK Sg)) ([.ptr 33 [.ptr 55 [.vec 47 C.node, .map C.node C.i64, .bool], .ptr 61 [.vec 47 C.node, .map C.node C.i64, .bool], .vec 42 C.pair, .bool], .int .i64, .int .i64] : List (VT Sg)) ([] : List (VT Sg)) ([.ptr 33 [.ptr 55 [.vec 47 C.node, .map C.node C.i64, .bool], .ptr 61 [.vec 47 C.node, .map C.node C.i64, .bool], .vec 42 C.pair, .bool], .same, .same] : List (VT Sg))) (funext fun a => funext fun K => eq_add a.1.1.1 a.1.1.2.1 a.1.1.2.2.1 a.1.2.1.1 a.1.2.1.2.1 a.1.2.1.2.2.1 a.1.2.2.1 a.1.2.2.2.1 a.2.1 a.2.2.1 (fun q0 q1 q2 q3 q4 q5 q6 q7 => K () (((q0, q1, q2, ()), (q3, q4, q5, ()), q6, q7, ()), (), (), ())))
  refine pl_meets (p := pl_add) ?_
  rw [h]
  exact meetsV (pl_ok ok_E_awake pl_add) 0 37 _ _ _ _ _
noncomputable def E_add : Ev Sg := E_awake.with 37 c_add
theorem ok_E_add : EvOk E_add := with_ok ok_E_awake ent_add m_add

end Go.Dg5
