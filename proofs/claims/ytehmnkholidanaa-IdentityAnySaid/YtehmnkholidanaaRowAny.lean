/- The row of IdentityAny: for every input the law returns true and leaves its arguments as they were. No condition. -/
import Derived.Test.YtehmnkholidanaaRows
import Derived.Test.YtehmnkholidanaaFlRow
import Derived.KernelRfl
import Derived.Test.YtehmnkholidanaaLwLAny
import Derived.Test.YtehmnkholidanaaIdLaws
namespace Go.Proofs.Ytehmnkholidanaa.identityAny
open Go Go.RowKit Go.Fl Go.ChangeShapes Go.WideShapes Go.ChangeAt
open Go.ChangeMaps (open_string shut_string)
theorem rdel_28 {H : Type} {enc : TypeId × Value → H} {W : World} {base : Nat} {spare : Nat → Bool} {held : Bool} (n : Nat) (cs : List Value) (x : DataW H × List MemPlace) (hl : cs.length = 3) (h : DataW.trod enc Try.prog W base spare held n 28 cs = some x) : ∃ y : Lk.L3, (REnc encLk) (hv W) cs y := by
  obtain ⟨xs, m, _, _, _, hn, hf⟩ := DataW.trod_struct Try.underlying28 h
  have c3 : Try.prog.cellsOf 3 = 1 := by kernel_rfl
  have c9 : Try.prog.cellsOf 9 = 1 := by kernel_rfl
  obtain ⟨y0, hy0⟩ : ∃ y, xs[0]? = some y := ⟨_, List.getElem?_eq_getElem (by rw [hn]; decide)⟩
  have q0 := (hf 0 _ rfl).trans hy0
  obtain ⟨a0, e0, _⟩ := DataW.trod_string Try.underlying9 q0
  change List.take (Try.prog.cellsOf 9) (List.drop 0 cs) = _ at e0
  rw [c9] at e0
  obtain ⟨y1, hy1⟩ : ∃ y, xs[1]? = some y := ⟨_, List.getElem?_eq_getElem (by rw [hn]; decide)⟩
  have q1 := (hf 1 _ rfl).trans hy1
  obtain ⟨a1, e1, _⟩ := DataW.trod_string Try.underlying9 q1
  change List.take (Try.prog.cellsOf 9) (List.drop 1 cs) = _ at e1
  rw [c9] at e1
  obtain ⟨y2, hy2⟩ : ∃ y, xs[2]? = some y := ⟨_, List.getElem?_eq_getElem (by rw [hn]; decide)⟩
  have q2 := (hf 2 _ rfl).trans hy2
  obtain ⟨a2, e2, _⟩ := DataW.trod_int Try.underlying3 q2
  change List.take (Try.prog.cellsOf 3) (List.drop 2 cs) = _ at e2
  rw [c3] at e2
  match cs, hl with
  | [u0, u1, u2], _ =>
    simp at e0 e1 e2
    subst e0 e1 e2
    exact ⟨(a0, a1, a2), rfl⟩

theorem own : ownKnob Try.prog.godebug = none := by kernel_rfl
theorem laidOut : laidOutB Try.prog = true := by kernel_rfl
set_option maxRecDepth 100000 in
theorem lifted (os : Os) (started : os.Started) (H : Type) (enc : TypeId × Value → H) :
    ReturnsInHanded {} Try.checked os 10 .any (Rows.identityAnySpec.pre6 enc Try.prog Try.f10 Rows.identityAnyRow.domain false) (Rows.identityAnySpec.post enc Try.prog Try.f10 false true false false) := by
  refine returnsInHanded_of_change_sized (C := Try.checked) own started (by kernel_rfl) Try.func10
    (ChangeSpec.witness6 (enc := enc) (C := Try.checked) false ⟨#[], #[.slice none 0 0, .string ⟨#[]⟩, .string ⟨#[]⟩, .int .i64 0], []⟩ 8 (by kernel_rfl) (by kernel_rfl) (by kernel_rfl) (by kernel_rfl)) ?_
  intro W base args ds gs before hval0 hW hcnd hsz0 _
  have hval : ∀ (j : Nat) t v, Try.f10.params[j]? = some t → args[j]? = some v → Value.okWide Try.prog W .any base t v := hval0
  have hsz : (DataW.weightsEach Try.prog (Try.f10.params.toList ++ Rows.identityAnySpec.plain.varTypes Try.prog) (ds ++ gs)).all (· ≤ reachBytes) = true := hsz0
  have hW' := hW
  obtain ⟨p, q, hA0, hV, rfl, hfz, hnd⟩ := hW
  have hA : DataW.TrodAll enc Try.prog W 0 (fun _ => true) true Try.f10.params.toList args.toList ds p := hA0
  rw [Try.params10] at hA hval hsz
  obtain ⟨v0, vs0, d0, ds0, p0, q0, hargs, rfl, rfl, h0, r0⟩ := trodAll_cons hA
  obtain ⟨v1, vs1, d1, ds1, p1, q1, rfl, rfl, rfl, h1, r1⟩ := trodAll_cons r0
  obtain ⟨v2, vs2, d2, ds2, p2, q2, rfl, rfl, rfl, h2, r2⟩ := trodAll_cons r1
  obtain ⟨v3, vs3, d3, ds3, p3, q3, rfl, rfl, rfl, h3, r3⟩ := trodAll_cons r2
  obtain ⟨rfl, rfl, rfl⟩ := trodAll_nil r3
  obtain rfl : args = #[v0, v1, v2, v3] := by cases args; simp_all
  obtain ⟨rfl, rfl⟩ := trodVars_none hV
  have k0 := h0
  have lt0 : ∀ x ∈ p0, x.block < W.heap.size := by obtain ⟨m, hm⟩ := k0; exact DataW.trod_lt m _ _ _ hm
  obtain ⟨l0, rd0⟩ := rd_slice (R := (REnc encLk)) (size := 3) Try.underlying24 (by kernel_rfl) (of_decide_eq_true (by kernel_rfl)) (fun n cs x hl hx => rdel_28 n cs x hl hx) (hval 0 24 v0 rfl rfl) h0 (sized_at hsz (j := 0) (t := 24) rfl rfl)
  obtain ⟨x1, rfl, rfl, rfl, wx1⟩ := open_string Try.underlying9 (hval 1 9 v1 rfl rfl) h1
  obtain ⟨x2, rfl, rfl, rfl, wx2⟩ := open_string Try.underlying9 (hval 2 9 v2 rfl rfl) h2
  obtain ⟨x3, rfl, rfl, rfl, wx3⟩ := open_int Try.underlying3 (hval 3 3 v3 rfl rfl) h3
  have bx3 := wx3
  simp only [Lit.wf, Bool.and_eq_true, decide_eq_true_eq] at bx3
  have blo3 : -9223372036854775808 ≤ x3 := by have := bx3.1; simp [IntKind.min] at this; exact this
  have bhi3 : x3 ≤ 9223372036854775807 := by have := bx3.2; simp [IntKind.max] at this; exact this
  refine (w_law26_IdentityAny l0 x1 x2 x3 v0 (hv_view W) rd0 (any_ok l0 x1 x2 x3)).mono fun e W' he => ?_
  obtain ⟨r, rfl, hg, hr⟩ := he
  have hrt : r = true := hr
  subst hrt
  have bel := below_of hg.keeps
  exact ⟨_, rfl, _, _, _, [], _, [], hW', trodAll_mk1 (shut_bool Try.underlying4 _), (trodAll_cons_mk (Below.trod laidOut (by kernel_rfl) (of_decide_eq_true (by kernel_rfl)) k0 bel lt0) (trodAll_cons_mk (shut_string Try.underlying9 wx1) (trodAll_cons_mk (shut_string Try.underlying9 wx2) (trodAll_cons_mk (shut_int Try.underlying3 wx3) trodAll_mk0)))), rfl, bel.frame _, fun h => by cases h⟩
theorem over : Rows.identityAnyRow.holds Try.pinned (OpenSpec.ofChange Rows.identityAnySpec) :=
  OpenClaim.holds_of_wide 10 Try.f10 rfl rfl rfl rfl rfl rfl rfl ⟨rfl, rfl, rfl, rfl, rfl⟩ rfl rfl rfl rfl rfl (by kernel_rfl) Try.func10 (by kernel_rfl)
    (of_decide_eq_true (by kernel_rfl)) (by unfold Func.isWrapper; first | (rw [if_pos (by decide +kernel)]; kernel_rfl) | (rw [if_neg (by decide +kernel)]; exact ⟨rfl, rfl⟩))
    (fun os started H enc _ => lifted os started H enc)
theorem proved : Rows.IdentityAnySaid := over
#print axioms proved
end Go.Proofs.Ytehmnkholidanaa.identityAny
