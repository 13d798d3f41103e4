/- The row of DiagramCanonical: for every input the law returns true and leaves its arguments as they were. No condition. -/
import Derived.Test.YtkfcnibjlmiboaaRows
import Derived.Test.YtkfcnibjlmiboaaFlRow
import Derived.KernelRfl
import Derived.Test.YtkfcnibjlmiboaaLwCan
import Derived.Test.YtkfcnibjlmiboaaDgCan
namespace Go.Dg5
open Go Go.RowKit Go.Fl Go.Fx
/-- Bytes as numbers. -/
def u8s (l : List UInt8) : List Int := l.map fun b => ((b.toNat : Nat) : Int)
theorem u8s_in {l : List UInt8} : ∀ x ∈ u8s l, 0 ≤ x ∧ x < 256 := fun x hx => by
  obtain ⟨b, _, rfl⟩ := List.mem_map.1 hx
  have := b.toNat_lt
  exact ⟨by omega, by omega⟩
theorem rs_u8 {σ : Hv} {v : Value} {l : List UInt8} (h : RSl 1 RU8 σ v l) : RSl (D.size C.u8) (ElF D C.u8) σ v (u8s l) := by
  obtain ⟨a, cap, rfl, h1, h2, h3⟩ := h
  refine ⟨a, cap, by simp [u8s], by simpa [u8s] using h1, by simpa [u8s] using h2, fun i x hx => ?_⟩
  simp only [u8s, List.getElem?_map, Option.map_eq_some_iff] at hx
  obtain ⟨b, hb, rfl⟩ := hx
  obtain ⟨ad, cs, e1, e2, e3, e4⟩ := h3 i b hb
  have e4 : cs = _ := e4
  subst e4
  refine ⟨ad, _, e1, rfl, e3, rfl, fun j w s hj hs => ?_⟩
  match j with
  | 0 => cases hj; cases hs; exact .int _ _
  | j + 1 => cases hj
theorem w_lCanon (x0 : List UInt8) (v0 : Value) {σ : Hv} {w : World} (hV : View σ w) (rd0 : RSl 1 RU8 σ v0 x0) (h : ∀ K : Bool → Prop, K true → P_lCanon (u8s x0) K) :
    Calls Go.Proofs.Try.prog 7 #[v0] w fun e w1 => ∃ r, e = .returned (.bool r) ∧ Grow [] σ w σ w1 ∧ r = true := by
  have he : c_lCanon.m ([.f (.sl C.u8 (u8s x0))] : List (Fx.Tr Sg)) (fun rets _ => rets = [.f (.bool true)]) = P_lCanon (u8s x0) (fun b => ([.f (.bool b)] : List (Fx.Tr Sg)) = [.f (.bool true)]) := by kernel_rfl
  have hp : c_lCanon.m ([.f (.sl C.u8 (u8s x0))] : List (Fx.Tr Sg)) (fun rets _ => rets = [.f (.bool true)]) := Eq.mpr he (h _ rfl)
  have hm := n_lCanon _ _ hp w σ [v0] [] (LayL.cons (ms := []) (.f (RepF.ofRSl okP.ok (rs_u8 rd0))) .nil) (St.start hV)
  refine Calls.mono hm ?_
  rintro e w1 ⟨rets, outs, rv, σ1, msr, mso, rfl, hK, hLr, _, hS⟩
  subst hK
  cases hLr with
  | cons h1 hn =>
  cases hn
  cases h1 with
  | f hf =>
  cases hf
  exact ⟨true, rfl, hS.done.forget, rfl⟩
end Go.Dg5
namespace Go.Proofs.Ytkfcnibjlmiboaa.diagramCanonical
open Go Go.RowKit Go.Fl Go.ChangeShapes Go.WideShapes Go.ChangeAt
open Go.ChangeMaps (open_string shut_string)
theorem own : ownKnob Try.prog.godebug = none := by kernel_rfl
theorem laidOut : laidOutB Try.prog = true := by kernel_rfl
set_option maxRecDepth 100000 in
theorem lifted (os : Os) (started : os.Started) (H : Type) (enc : TypeId × Value → H) :
    ReturnsInHanded {} Try.checked os 7 .any (Rows.diagramCanonicalSpec.pre6 enc Try.prog Try.f7 Rows.diagramCanonicalRow.domain false) (Rows.diagramCanonicalSpec.post enc Try.prog Try.f7 false true false false) := by
  refine returnsInHanded_of_change_sized (C := Try.checked) own started (by kernel_rfl) Try.func7
    (ChangeSpec.witness6 (enc := enc) (C := Try.checked) false ⟨#[], #[.slice none 0 0], []⟩ 8 (by kernel_rfl) (by kernel_rfl) (by kernel_rfl) (by kernel_rfl)) ?_
  intro W base args ds gs before hval0 hW hcnd hsz0 _
  have hval : ∀ (j : Nat) t v, Try.f7.params[j]? = some t → args[j]? = some v → Value.okWide Try.prog W .any base t v := hval0
  have hsz : (DataW.weightsEach Try.prog (Try.f7.params.toList ++ Rows.diagramCanonicalSpec.plain.varTypes Try.prog) (ds ++ gs)).all (· ≤ reachBytes) = true := hsz0
  have hW' := hW
  obtain ⟨p, q, hA0, hV, rfl, hfz, hnd⟩ := hW
  have hA : DataW.TrodAll enc Try.prog W 0 (fun _ => true) true Try.f7.params.toList args.toList ds p := hA0
  rw [Try.params7] at hA hval hsz
  obtain ⟨v0, vs0, d0, ds0, p0, q0, hargs, rfl, rfl, h0, r0⟩ := trodAll_cons hA
  obtain ⟨rfl, rfl, rfl⟩ := trodAll_nil r0
  obtain rfl : args = #[v0] := by cases args; simp_all
  obtain ⟨rfl, rfl⟩ := trodVars_none hV
  have k0 := h0
  have lt0 : ∀ x ∈ p0, x.block < W.heap.size := by obtain ⟨m, hm⟩ := k0; exact DataW.trod_lt m _ _ _ hm
  obtain ⟨l0, rd0⟩ := rd_u8 Try.underlying29 Try.underlying5 (by kernel_rfl) (of_decide_eq_true (by kernel_rfl)) (hval 0 29 v0 rfl rfl) h0 (sized_at hsz (j := 0) (t := 29) rfl rfl)
  refine (Go.Dg5.w_lCanon l0 v0 (hv_view W) rd0 (fun _ h => Go.Dg5.canon_ok Go.Dg5.u8s_in h)).mono fun e W' he => ?_
  obtain ⟨r, rfl, hg, hr⟩ := he
  have hrt : r = true := hr
  subst hrt
  have bel := below_of hg.keeps
  exact ⟨_, rfl, _, _, _, [], _, [], hW', trodAll_mk1 (shut_bool Try.underlying4 _), (trodAll_cons_mk (Below.trod laidOut (by kernel_rfl) (of_decide_eq_true (by kernel_rfl)) k0 bel lt0) trodAll_mk0), rfl, bel.frame _, fun h => by cases h⟩
theorem over : Rows.diagramCanonicalRow.holds Try.pinned (OpenSpec.ofChange Rows.diagramCanonicalSpec) :=
  OpenClaim.holds_of_wide 7 Try.f7 rfl rfl rfl rfl rfl rfl rfl ⟨rfl, rfl, rfl, rfl, rfl⟩ rfl rfl rfl rfl rfl (by kernel_rfl) Try.func7 (by kernel_rfl)
    (of_decide_eq_true (by kernel_rfl)) (by unfold Func.isWrapper; first | (rw [if_pos (by decide +kernel)]; kernel_rfl) | (rw [if_neg (by decide +kernel)]; exact ⟨rfl, rfl⟩))
    (fun os started H enc _ => lifted os started H enc)
theorem proved : Rows.DiagramCanonicalSaid := over
#print axioms proved
end Go.Proofs.Ytkfcnibjlmiboaa.diagramCanonical
