/- The row of GraphNeeds: for every input the law returns true and leaves its arguments as they were. No condition. -/
import Derived.Test.YtegcjfidfinogaaRows
import Derived.Test.YtegcjfidfinogaaFlRow
import Derived.KernelRfl
import Derived.Test.YtegcjfidfinogaaLwLNeeds
import Derived.Test.YtegcjfidfinogaaGrLNeeds
namespace Go.Proofs.Ytegcjfidfinogaa.graphNeeds
open Go Go.RowKit Go.Fl Go.ChangeShapes Go.WideShapes Go.ChangeAt
open Go.ChangeMaps (open_string shut_string)
theorem rdel_40 {H : Type} {enc : TypeId × Value → H} {W : World} {base : Nat} {spare : Nat → Bool} {held : Bool} (n : Nat) (cs : List Value) (x : DataW H × List MemPlace) (hl : cs.length = 2) (h : DataW.trod enc Try.prog W base spare held n 40 cs = some x) : ∃ y : (ByteArray × ByteArray), (REnc encEd) (hv W) cs y := by
  obtain ⟨xs, m, _, _, _, hn, hf⟩ := DataW.trod_struct Try.underlying40 h
  have c9 : Try.prog.cellsOf 9 = 1 := by kernel_rfl
  obtain ⟨y0, hy0⟩ : ∃ y, xs[0]? = some y := ⟨_, List.getElem?_eq_getElem (by rw [hn]; decide)⟩
  have q0 := (hf 0 _ rfl).trans hy0
  obtain ⟨a0, e0, _⟩ := DataW.trod_string Try.underlying9 q0
  change List.take (Try.prog.cellsOf 9) (List.drop 0 cs) = _ at e0
  rw [c9] at e0
  obtain ⟨y1, hy1⟩ : ∃ y, xs[1]? = some y := ⟨_, List.getElem?_eq_getElem (by rw [hn]; decide)⟩
  have q1 := (hf 1 _ rfl).trans hy1
  obtain ⟨a1, e1, _⟩ := DataW.trod_string Try.underlying9 q1
  change List.take (Try.prog.cellsOf 9) (List.drop 1 cs) = _ at e1
  rw [c9] at e1
  match cs, hl with
  | [u0, u1], _ =>
    simp at e0 e1
    subst e0 e1
    exact ⟨(a0, a1), rfl⟩

theorem own : ownKnob Try.prog.godebug = none := by kernel_rfl
theorem laidOut : laidOutB Try.prog = true := by kernel_rfl
set_option maxRecDepth 100000 in
theorem lifted (os : Os) (started : os.Started) (H : Type) (enc : TypeId × Value → H) :
    ReturnsInHanded {} Try.checked os 6 .any (Rows.graphNeedsSpec.pre6 enc Try.prog Try.f6 Rows.graphNeedsRow.domain false) (Rows.graphNeedsSpec.post enc Try.prog Try.f6 false true false false) := by
  refine returnsInHanded_of_change_sized (C := Try.checked) own started (by kernel_rfl) Try.func6
    (ChangeSpec.witness6 (enc := enc) (C := Try.checked) false ⟨#[], #[.int .i64 0, .int .i64 0, .slice none 0 0, .bool false, .string ⟨#[]⟩, .slice none 0 0], []⟩ 8 (by kernel_rfl) (by kernel_rfl) (by kernel_rfl) (by kernel_rfl)) ?_
  intro W base args ds gs before hval0 hW hcnd hsz0 _
  have hval : ∀ (j : Nat) t v, Try.f6.params[j]? = some t → args[j]? = some v → Value.okWide Try.prog W .any base t v := hval0
  have hsz : (DataW.weightsEach Try.prog (Try.f6.params.toList ++ Rows.graphNeedsSpec.plain.varTypes Try.prog) (ds ++ gs)).all (· ≤ reachBytes) = true := hsz0
  have hW' := hW
  obtain ⟨p, q, hA0, hV, rfl, hfz, hnd⟩ := hW
  have hA : DataW.TrodAll enc Try.prog W 0 (fun _ => true) true Try.f6.params.toList args.toList ds p := hA0
  rw [Try.params6] at hA hval hsz
  obtain ⟨v0, vs0, d0, ds0, p0, q0, hargs, rfl, rfl, h0, r0⟩ := trodAll_cons hA
  obtain ⟨v1, vs1, d1, ds1, p1, q1, rfl, rfl, rfl, h1, r1⟩ := trodAll_cons r0
  obtain ⟨v2, vs2, d2, ds2, p2, q2, rfl, rfl, rfl, h2, r2⟩ := trodAll_cons r1
  obtain ⟨v3, vs3, d3, ds3, p3, q3, rfl, rfl, rfl, h3, r3⟩ := trodAll_cons r2
  obtain ⟨v4, vs4, d4, ds4, p4, q4, rfl, rfl, rfl, h4, r4⟩ := trodAll_cons r3
  obtain ⟨v5, vs5, d5, ds5, p5, q5, rfl, rfl, rfl, h5, r5⟩ := trodAll_cons r4
  obtain ⟨rfl, rfl, rfl⟩ := trodAll_nil r5
  obtain rfl : args = #[v0, v1, v2, v3, v4, v5] := by cases args; simp_all
  obtain ⟨rfl, rfl⟩ := trodVars_none hV
  obtain ⟨x0, rfl, rfl, rfl, wx0⟩ := open_int Try.underlying3 (hval 0 3 v0 rfl rfl) h0
  have bx0 := wx0
  simp only [Lit.wf, Bool.and_eq_true, decide_eq_true_eq] at bx0
  have blo0 : -9223372036854775808 ≤ x0 := by have := bx0.1; simp [IntKind.min] at this; exact this
  have bhi0 : x0 ≤ 9223372036854775807 := by have := bx0.2; simp [IntKind.max] at this; exact this
  obtain ⟨x1, rfl, rfl, rfl, wx1⟩ := open_int Try.underlying3 (hval 1 3 v1 rfl rfl) h1
  have bx1 := wx1
  simp only [Lit.wf, Bool.and_eq_true, decide_eq_true_eq] at bx1
  have blo1 : -9223372036854775808 ≤ x1 := by have := bx1.1; simp [IntKind.min] at this; exact this
  have bhi1 : x1 ≤ 9223372036854775807 := by have := bx1.2; simp [IntKind.max] at this; exact this
  have k2 := h2
  have lt2 : ∀ x ∈ p2, x.block < W.heap.size := by obtain ⟨m, hm⟩ := k2; exact DataW.trod_lt m _ _ _ hm
  obtain ⟨l2, rd2⟩ := rd_u8 Try.underlying22 Try.underlying5 (by kernel_rfl) (of_decide_eq_true (by kernel_rfl)) (hval 2 22 v2 rfl rfl) h2 (sized_at hsz (j := 2) (t := 22) rfl rfl)
  obtain ⟨x3, rfl, rfl, rfl⟩ := open_bool Try.underlying4 (hval 3 4 v3 rfl rfl) h3
  obtain ⟨x4, rfl, rfl, rfl, wx4⟩ := open_string Try.underlying9 (hval 4 9 v4 rfl rfl) h4
  have k5 := h5
  have lt5 : ∀ x ∈ p5, x.block < W.heap.size := by obtain ⟨m, hm⟩ := k5; exact DataW.trod_lt m _ _ _ hm
  obtain ⟨l5, rd5⟩ := rd_slice (R := (REnc encEd)) (size := 2) Try.underlying24 (by kernel_rfl) (of_decide_eq_true (by kernel_rfl)) (fun n cs x hl hx => rdel_40 n cs x hl hx) (hval 5 24 v5 rfl rfl) h5 (sized_at hsz (j := 5) (t := 24) rfl rfl)
  refine (w_law10_GraphNeeds x0 x1 l2 x3 x4 l5 v2 v5 (hv_view W) rd2 rd5 (needs_ok x0 x1 l2 x3 x4 l5)).mono fun e W' he => ?_
  obtain ⟨r, rfl, hg, hr⟩ := he
  have hrt : r = true := hr
  subst hrt
  have bel := below_of hg.keeps
  exact ⟨_, rfl, _, _, _, [], _, [], hW', trodAll_mk1 (shut_bool Try.underlying4 _), (trodAll_cons_mk (shut_int Try.underlying3 wx0) (trodAll_cons_mk (shut_int Try.underlying3 wx1) (trodAll_cons_mk (Below.trod laidOut (by kernel_rfl) (of_decide_eq_true (by kernel_rfl)) k2 bel lt2) (trodAll_cons_mk (shut_bool Try.underlying4 _) (trodAll_cons_mk (shut_string Try.underlying9 wx4) (trodAll_cons_mk (Below.trod laidOut (by kernel_rfl) (of_decide_eq_true (by kernel_rfl)) k5 bel lt5) trodAll_mk0)))))), rfl, bel.frame _, fun h => by cases h⟩
theorem over : Rows.graphNeedsRow.holds Try.pinned (OpenSpec.ofChange Rows.graphNeedsSpec) :=
  OpenClaim.holds_of_wide 6 Try.f6 rfl rfl rfl rfl rfl rfl rfl ⟨rfl, rfl, rfl, rfl, rfl⟩ rfl rfl rfl rfl rfl (by kernel_rfl) Try.func6 (by kernel_rfl)
    (of_decide_eq_true (by kernel_rfl)) (by unfold Func.isWrapper; first | (rw [if_pos (by decide +kernel)]; kernel_rfl) | (rw [if_neg (by decide +kernel)]; exact ⟨rfl, rfl⟩))
    (fun os started H enc _ => lifted os started H enc)
theorem proved : Rows.GraphNeedsSaid := over
#print axioms proved
end Go.Proofs.Ytegcjfidfinogaa.graphNeeds
