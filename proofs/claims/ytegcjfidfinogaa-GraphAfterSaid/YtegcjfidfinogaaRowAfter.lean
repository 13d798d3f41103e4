/- The row of GraphAfter: for every input the law returns true and leaves its arguments as they were. No condition. -/
import Derived.Test.YtegcjfidfinogaaRows
import Derived.Test.YtegcjfidfinogaaFlRow
import Derived.KernelRfl
import Derived.Test.YtegcjfidfinogaaLwLAfter
import Derived.Test.YtegcjfidfinogaaGrLAfter
namespace Go.Proofs.Ytegcjfidfinogaa.graphAfter
open Go Go.RowKit Go.Fl Go.ChangeShapes Go.WideShapes Go.ChangeAt
open Go.ChangeMaps (open_string shut_string)
theorem own : ownKnob Try.prog.godebug = none := by kernel_rfl
theorem laidOut : laidOutB Try.prog = true := by kernel_rfl
set_option maxRecDepth 100000 in
theorem lifted (os : Os) (started : os.Started) (H : Type) (enc : TypeId × Value → H) :
    ReturnsInHanded {} Try.checked os 4 .any (Rows.graphAfterSpec.pre6 enc Try.prog Try.f4 Rows.graphAfterRow.domain false) (Rows.graphAfterSpec.post enc Try.prog Try.f4 false true false false) := by
  refine returnsInHanded_of_change_sized (C := Try.checked) own started (by kernel_rfl) Try.func4
    (ChangeSpec.witness6 (enc := enc) (C := Try.checked) false ⟨#[], #[.int .i64 0, .int .i64 0, .slice none 0 0], []⟩ 8 (by kernel_rfl) (by kernel_rfl) (by kernel_rfl) (by kernel_rfl)) ?_
  intro W base args ds gs before hval0 hW hcnd hsz0 _
  have hval : ∀ (j : Nat) t v, Try.f4.params[j]? = some t → args[j]? = some v → Value.okWide Try.prog W .any base t v := hval0
  have hsz : (DataW.weightsEach Try.prog (Try.f4.params.toList ++ Rows.graphAfterSpec.plain.varTypes Try.prog) (ds ++ gs)).all (· ≤ reachBytes) = true := hsz0
  have hW' := hW
  obtain ⟨p, q, hA0, hV, rfl, hfz, hnd⟩ := hW
  have hA : DataW.TrodAll enc Try.prog W 0 (fun _ => true) true Try.f4.params.toList args.toList ds p := hA0
  rw [Try.params4] at hA hval hsz
  obtain ⟨v0, vs0, d0, ds0, p0, q0, hargs, rfl, rfl, h0, r0⟩ := trodAll_cons hA
  obtain ⟨v1, vs1, d1, ds1, p1, q1, rfl, rfl, rfl, h1, r1⟩ := trodAll_cons r0
  obtain ⟨v2, vs2, d2, ds2, p2, q2, rfl, rfl, rfl, h2, r2⟩ := trodAll_cons r1
  obtain ⟨rfl, rfl, rfl⟩ := trodAll_nil r2
  obtain rfl : args = #[v0, v1, v2] := by cases args; simp_all
  obtain ⟨rfl, rfl⟩ := trodVars_none hV
  obtain ⟨x0, rfl, rfl, rfl, wx0⟩ := open_int Try.underlying3 (hval 0 3 v0 rfl rfl) h0
  have bx0 := wx0
  simp only [Lit.wf, Bool.and_eq_true, decide_eq_true_eq] at bx0
  have blo0 : -9223372036854775808 ≤ x0 := by have := bx0.1; simp [IntKind.min] at this; exact this
  have bhi0 : x0 ≤ 9223372036854775807 := by have := bx0.2; simp [IntKind.max] at this; exact this
  obtain ⟨x1, rfl, rfl, rfl, wx1⟩ := open_int Try.underlying3 (hval 1 3 v1 rfl rfl) h1
  have bx1 := wx1
  simp only [Lit.wf, Bool.and_eq_true, decide_eq_true_eq] at bx1
  have blo1 : -9223372036854775808 ≤ x1 := by have := bx1.1; simp [IntKind.min] at this; exact this
  have bhi1 : x1 ≤ 9223372036854775807 := by have := bx1.2; simp [IntKind.max] at this; exact this
  have k2 := h2
  have lt2 : ∀ x ∈ p2, x.block < W.heap.size := by obtain ⟨m, hm⟩ := k2; exact DataW.trod_lt m _ _ _ hm
  obtain ⟨l2, rd2⟩ := rd_u8 Try.underlying22 Try.underlying5 (by kernel_rfl) (of_decide_eq_true (by kernel_rfl)) (hval 2 22 v2 rfl rfl) h2 (sized_at hsz (j := 2) (t := 22) rfl rfl)
  refine (w_law10_GraphAfter x0 x1 l2 v2 (hv_view W) rd2 (after_ok x0 x1 l2)).mono fun e W' he => ?_
  obtain ⟨r, rfl, hg, hr⟩ := he
  have hrt : r = true := hr
  subst hrt
  have bel := below_of hg.keeps
  exact ⟨_, rfl, _, _, _, [], _, [], hW', trodAll_mk1 (shut_bool Try.underlying4 _), (trodAll_cons_mk (shut_int Try.underlying3 wx0) (trodAll_cons_mk (shut_int Try.underlying3 wx1) (trodAll_cons_mk (Below.trod laidOut (by kernel_rfl) (of_decide_eq_true (by kernel_rfl)) k2 bel lt2) trodAll_mk0))), rfl, bel.frame _, fun h => by cases h⟩
theorem over : Rows.graphAfterRow.holds Try.pinned (OpenSpec.ofChange Rows.graphAfterSpec) :=
  OpenClaim.holds_of_wide 4 Try.f4 rfl rfl rfl rfl rfl rfl rfl ⟨rfl, rfl, rfl, rfl, rfl⟩ rfl rfl rfl rfl rfl (by kernel_rfl) Try.func4 (by kernel_rfl)
    (of_decide_eq_true (by kernel_rfl)) (by unfold Func.isWrapper; first | (rw [if_pos (by decide +kernel)]; kernel_rfl) | (rw [if_neg (by decide +kernel)]; exact ⟨rfl, rfl⟩))
    (fun os started H enc _ => lifted os started H enc)
theorem proved : Rows.GraphAfterSaid := over
#print axioms proved
end Go.Proofs.Ytegcjfidfinogaa.graphAfter
