/- The row of DiagramLimits: for every input the law returns true and leaves its arguments as they were. No condition. -/
import Derived.Test.YtkfcnibjlmiboaaRows
import Derived.Test.YtkfcnibjlmiboaaFlRow
import Derived.KernelRfl
import Derived.Test.YtkfcnibjlmiboaaLwLim
import Derived.Test.YtkfcnibjlmiboaaDgLim
namespace Go.Dg5
open Go Go.RowKit Go.Fl Go.Fx
theorem w_lLimits (x0 : Int) (x1 : Int) (x2 : Int) {σ : Hv} {w : World} (hV : View σ w) (h : ∀ K : Bool → Prop, K true → P_lLimits x0 x1 x2 K) :
    Calls Go.Proofs.Try.prog 5 #[.int .i64 x0, .int .i64 x1, .int .i64 x2] w fun e w1 => ∃ r, e = .returned (.bool r) ∧ Grow [] σ w σ w1 ∧ r = true := by
  have he : c_lLimits.m ([.f (.int .i64 x0), .f (.int .i64 x1), .f (.int .i64 x2)] : List (Fx.Tr Sg)) (fun rets _ => rets = [.f (.bool true)]) = P_lLimits x0 x1 x2 (fun b => ([.f (.bool b)] : List (Fx.Tr Sg)) = [.f (.bool true)]) := by kernel_rfl
  have hp : c_lLimits.m ([.f (.int .i64 x0), .f (.int .i64 x1), .f (.int .i64 x2)] : List (Fx.Tr Sg)) (fun rets _ => rets = [.f (.bool true)]) := Eq.mpr he (h _ rfl)
  have hm := n_lLimits _ _ hp w σ [.int .i64 x0, .int .i64 x1, .int .i64 x2] [] (LayL.cons (ms := []) (.f (.int _ _)) (LayL.cons (ms := []) (.f (.int _ _)) (LayL.cons (ms := []) (.f (.int _ _)) .nil))) (St.start hV)
  refine Calls.mono hm ?_
  rintro e w1 ⟨rets, outs, rv, σ1, msr, mso, rfl, hK, hLr, _, hS⟩
  subst hK
  cases hLr with
  | cons h1 hn =>
  cases hn
  cases h1 with
  | f hf =>
  cases hf
  exact ⟨true, rfl, hS.done.forget, rfl⟩
end Go.Dg5
namespace Go.Proofs.Ytkfcnibjlmiboaa.diagramLimits
open Go Go.RowKit Go.Fl Go.ChangeShapes Go.WideShapes Go.ChangeAt
open Go.ChangeMaps (open_string shut_string)
theorem own : ownKnob Try.prog.godebug = none := by kernel_rfl
theorem laidOut : laidOutB Try.prog = true := by kernel_rfl
set_option maxRecDepth 100000 in
theorem lifted (os : Os) (started : os.Started) (H : Type) (enc : TypeId × Value → H) :
    ReturnsInHanded {} Try.checked os 5 .any (Rows.diagramLimitsSpec.pre6 enc Try.prog Try.f5 Rows.diagramLimitsRow.domain false) (Rows.diagramLimitsSpec.post enc Try.prog Try.f5 false true false false) := by
  refine returnsInHanded_of_change_sized (C := Try.checked) own started (by kernel_rfl) Try.func5
    (ChangeSpec.witness6 (enc := enc) (C := Try.checked) false ⟨#[], #[.int .i64 0, .int .i64 0, .int .i64 0], []⟩ 8 (by kernel_rfl) (by kernel_rfl) (by kernel_rfl) (by kernel_rfl)) ?_
  intro W base args ds gs before hval0 hW hcnd hsz0 _
  have hval : ∀ (j : Nat) t v, Try.f5.params[j]? = some t → args[j]? = some v → Value.okWide Try.prog W .any base t v := hval0
  have hsz : (DataW.weightsEach Try.prog (Try.f5.params.toList ++ Rows.diagramLimitsSpec.plain.varTypes Try.prog) (ds ++ gs)).all (· ≤ reachBytes) = true := hsz0
  have hW' := hW
  obtain ⟨p, q, hA0, hV, rfl, hfz, hnd⟩ := hW
  have hA : DataW.TrodAll enc Try.prog W 0 (fun _ => true) true Try.f5.params.toList args.toList ds p := hA0
  rw [Try.params5] at hA hval
  obtain ⟨v0, vs0, d0, ds0, p0, q0, hargs, rfl, rfl, h0, r0⟩ := trodAll_cons hA
  obtain ⟨v1, vs1, d1, ds1, p1, q1, rfl, rfl, rfl, h1, r1⟩ := trodAll_cons r0
  obtain ⟨v2, vs2, d2, ds2, p2, q2, rfl, rfl, rfl, h2, r2⟩ := trodAll_cons r1
  obtain ⟨rfl, rfl, rfl⟩ := trodAll_nil r2
  obtain rfl : args = #[v0, v1, v2] := by cases args; simp_all
  obtain ⟨rfl, rfl⟩ := trodVars_none hV
  obtain ⟨x0, rfl, rfl, rfl, wx0⟩ := open_int Try.underlying3 (hval 0 3 v0 rfl rfl) h0
  have bx0 := wx0
  simp only [Lit.wf, Bool.and_eq_true, decide_eq_true_eq] at bx0
  have blo0 : -9223372036854775808 ≤ x0 := by have := bx0.1; simp [IntKind.min] at this; exact this
  have bhi0 : x0 ≤ 9223372036854775807 := by have := bx0.2; simp [IntKind.max] at this; exact this
  obtain ⟨x1, rfl, rfl, rfl, wx1⟩ := open_int Try.underlying3 (hval 1 3 v1 rfl rfl) h1
  have bx1 := wx1
  simp only [Lit.wf, Bool.and_eq_true, decide_eq_true_eq] at bx1
  have blo1 : -9223372036854775808 ≤ x1 := by have := bx1.1; simp [IntKind.min] at this; exact this
  have bhi1 : x1 ≤ 9223372036854775807 := by have := bx1.2; simp [IntKind.max] at this; exact this
  obtain ⟨x2, rfl, rfl, rfl, wx2⟩ := open_int Try.underlying3 (hval 2 3 v2 rfl rfl) h2
  have bx2 := wx2
  simp only [Lit.wf, Bool.and_eq_true, decide_eq_true_eq] at bx2
  have blo2 : -9223372036854775808 ≤ x2 := by have := bx2.1; simp [IntKind.min] at this; exact this
  have bhi2 : x2 ≤ 9223372036854775807 := by have := bx2.2; simp [IntKind.max] at this; exact this
  refine (Go.Dg5.w_lLimits x0 x1 x2  (hv_view W)  (fun _ h => Go.Dg5.limits_ok h)).mono fun e W' he => ?_
  obtain ⟨r, rfl, hg, hr⟩ := he
  have hrt : r = true := hr
  subst hrt
  have bel := below_of hg.keeps
  exact ⟨_, rfl, _, _, _, [], _, [], hW', trodAll_mk1 (shut_bool Try.underlying4 _), (trodAll_cons_mk (shut_int Try.underlying3 wx0) (trodAll_cons_mk (shut_int Try.underlying3 wx1) (trodAll_cons_mk (shut_int Try.underlying3 wx2) trodAll_mk0))), rfl, bel.frame _, fun h => by cases h⟩
theorem over : Rows.diagramLimitsRow.holds Try.pinned (OpenSpec.ofChange Rows.diagramLimitsSpec) :=
  OpenClaim.holds_of_wide 5 Try.f5 rfl rfl rfl rfl rfl rfl rfl ⟨rfl, rfl, rfl, rfl, rfl⟩ rfl rfl rfl rfl rfl (by kernel_rfl) Try.func5 (by kernel_rfl)
    (of_decide_eq_true (by kernel_rfl)) (by unfold Func.isWrapper; first | (rw [if_pos (by decide +kernel)]; kernel_rfl) | (rw [if_neg (by decide +kernel)]; exact ⟨rfl, rfl⟩))
    (fun os started H enc _ => lifted os started H enc)
theorem proved : Rows.DiagramLimitsSaid := over
#print axioms proved
end Go.Proofs.Ytkfcnibjlmiboaa.diagramLimits
