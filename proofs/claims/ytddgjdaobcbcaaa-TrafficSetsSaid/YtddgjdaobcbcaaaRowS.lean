/- The row of TrafficSets: for every input the law returns true and leaves its arguments as they were. No condition. -/
import Derived.Test.YtddgjdaobcbcaaaRows
import Derived.Test.YtddgjdaobcbcaaaFlRow
import Derived.KernelRfl
import Derived.Test.YtddgjdaobcbcaaaExp10
namespace Go.Proofs.Ytddgjdaobcbcaaa.trafficSets
open Go Go.RowKit Go.Fl Go.ChangeShapes Go.WideShapes Go.ChangeAt
open Go.ChangeMaps (open_string shut_string)
theorem own : ownKnob Try.prog.godebug = none := by kernel_rfl
theorem laidOut : laidOutB Try.prog = true := by kernel_rfl
set_option maxRecDepth 100000 in
theorem lifted (os : Os) (started : os.Started) (H : Type) (enc : TypeId × Value → H) :
    ReturnsInHanded {} Try.checked os 4 .any (Rows.trafficSetsSpec.pre6 enc Try.prog Try.f4 Rows.trafficSetsRow.domain false) (Rows.trafficSetsSpec.post enc Try.prog Try.f4 false true false false) := by
  refine returnsInHanded_of_change_sized (C := Try.checked) own started (by kernel_rfl) Try.func4
    (ChangeSpec.witness6 (enc := enc) (C := Try.checked) false ⟨#[], #[.slice none 0 0, .slice none 0 0, .slice none 0 0, .slice none 0 0, .int .i64 0], []⟩ 8 (by kernel_rfl) (by kernel_rfl) (by kernel_rfl) (by kernel_rfl)) ?_
  intro W base args ds gs before hval0 hW hcnd hsz0 _
  have hval : ∀ (j : Nat) t v, Try.f4.params[j]? = some t → args[j]? = some v → Value.okWide Try.prog W .any base t v := hval0
  have hsz : (DataW.weightsEach Try.prog (Try.f4.params.toList ++ Rows.trafficSetsSpec.plain.varTypes Try.prog) (ds ++ gs)).all (· ≤ reachBytes) = true := hsz0
  have hW' := hW
  obtain ⟨p, q, hA0, hV, rfl, hfz, hnd⟩ := hW
  have hA : DataW.TrodAll enc Try.prog W 0 (fun _ => true) true Try.f4.params.toList args.toList ds p := hA0
  rw [Try.params4] at hA hval hsz
  obtain ⟨v0, vs0, d0, ds0, p0, q0, hargs, rfl, rfl, h0, r0⟩ := trodAll_cons hA
  obtain ⟨v1, vs1, d1, ds1, p1, q1, rfl, rfl, rfl, h1, r1⟩ := trodAll_cons r0
  obtain ⟨v2, vs2, d2, ds2, p2, q2, rfl, rfl, rfl, h2, r2⟩ := trodAll_cons r1
  obtain ⟨v3, vs3, d3, ds3, p3, q3, rfl, rfl, rfl, h3, r3⟩ := trodAll_cons r2
  obtain ⟨v4, vs4, d4, ds4, p4, q4, rfl, rfl, rfl, h4, r4⟩ := trodAll_cons r3
  obtain ⟨rfl, rfl, rfl⟩ := trodAll_nil r4
  obtain rfl : args = #[v0, v1, v2, v3, v4] := by cases args; simp_all
  obtain ⟨rfl, rfl⟩ := trodVars_none hV
  have k0 := h0
  have lt0 : ∀ x ∈ p0, x.block < W.heap.size := by obtain ⟨m, hm⟩ := k0; exact DataW.trod_lt m _ _ _ hm
  obtain ⟨l0, rd0⟩ := rd_u8 Try.underlying22 Try.underlying5 (by kernel_rfl) (of_decide_eq_true (by kernel_rfl)) (hval 0 22 v0 rfl rfl) h0 (sized_at hsz (j := 0) (t := 22) rfl rfl)
  have k1 := h1
  have lt1 : ∀ x ∈ p1, x.block < W.heap.size := by obtain ⟨m, hm⟩ := k1; exact DataW.trod_lt m _ _ _ hm
  obtain ⟨l1, rd1⟩ := rd_u8 Try.underlying22 Try.underlying5 (by kernel_rfl) (of_decide_eq_true (by kernel_rfl)) (hval 1 22 v1 rfl rfl) h1 (sized_at hsz (j := 1) (t := 22) rfl rfl)
  have k2 := h2
  have lt2 : ∀ x ∈ p2, x.block < W.heap.size := by obtain ⟨m, hm⟩ := k2; exact DataW.trod_lt m _ _ _ hm
  obtain ⟨l2, rd2⟩ := rd_spans Try.underlying24 Try.underlying37 Try.underlying3 Try.underlying3 rfl rfl (by kernel_rfl) (by kernel_rfl) (by kernel_rfl) (of_decide_eq_true (by kernel_rfl)) (hval 2 24 v2 rfl rfl) h2 (sized_at hsz (j := 2) (t := 24) rfl rfl)
  have k3 := h3
  have lt3 : ∀ x ∈ p3, x.block < W.heap.size := by obtain ⟨m, hm⟩ := k3; exact DataW.trod_lt m _ _ _ hm
  obtain ⟨l3, rd3⟩ := rd_spans Try.underlying24 Try.underlying37 Try.underlying3 Try.underlying3 rfl rfl (by kernel_rfl) (by kernel_rfl) (by kernel_rfl) (of_decide_eq_true (by kernel_rfl)) (hval 3 24 v3 rfl rfl) h3 (sized_at hsz (j := 3) (t := 24) rfl rfl)
  obtain ⟨x4, rfl, rfl, rfl, wx4⟩ := open_int Try.underlying3 (hval 4 3 v4 rfl rfl) h4
  have bx4 := wx4
  simp only [Lit.wf, Bool.and_eq_true, decide_eq_true_eq] at bx4
  have blo4 : -9223372036854775808 ≤ x4 := by have := bx4.1; simp [IntKind.min] at this; exact this
  have bhi4 : x4 ≤ 9223372036854775807 := by have := bx4.2; simp [IntKind.max] at this; exact this
  refine (law_Sets v0 v1 v2 v3 x4 l0 l1 l2 l3 (hv_view W) rd0 rd1 rd2 rd3 blo4 bhi4).mono fun e W' ⟨he, hg⟩ => ?_
  have bel := below_of hg.keeps
  subst he
  exact ⟨_, rfl, _, _, _, [], _, [], hW', trodAll_mk1 (shut_bool Try.underlying4 _), (trodAll_cons_mk (Below.trod laidOut (by kernel_rfl) (of_decide_eq_true (by kernel_rfl)) k0 bel lt0) (trodAll_cons_mk (Below.trod laidOut (by kernel_rfl) (of_decide_eq_true (by kernel_rfl)) k1 bel lt1) (trodAll_cons_mk (Below.trod laidOut (by kernel_rfl) (of_decide_eq_true (by kernel_rfl)) k2 bel lt2) (trodAll_cons_mk (Below.trod laidOut (by kernel_rfl) (of_decide_eq_true (by kernel_rfl)) k3 bel lt3) (trodAll_cons_mk (shut_int Try.underlying3 wx4) trodAll_mk0))))), rfl, bel.frame _, fun h => by cases h⟩
theorem over : Rows.trafficSetsRow.holds Try.pinned (OpenSpec.ofChange Rows.trafficSetsSpec) :=
  OpenClaim.holds_of_wide 4 Try.f4 rfl rfl rfl rfl rfl rfl rfl ⟨rfl, rfl, rfl, rfl, rfl⟩ rfl rfl rfl rfl rfl (by kernel_rfl) Try.func4 (by kernel_rfl)
    (of_decide_eq_true (by kernel_rfl)) (by unfold Func.isWrapper; first | (rw [if_pos (by decide +kernel)]; kernel_rfl) | (rw [if_neg (by decide +kernel)]; exact ⟨rfl, rfl⟩))
    (fun os started H enc _ => lifted os started H enc)
theorem proved : Rows.TrafficSetsSaid := over
#print axioms proved
end Go.Proofs.Ytddgjdaobcbcaaa.trafficSets
