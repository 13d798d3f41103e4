/- Two diagrams have the same id in one store exactly if they have it in the other one. Conditions: those in the statements. -/
import Derived.Test.YtkfcnibjlmiboaaDgMade
import Derived.Test.YtkfcnibjlmiboaaDgFull
namespace Go.Dg5
open Go.Fl Go.Fx Go.Dg

theorem Eqv.same {ns rns : List Nd} {p r p' r' : Int} (hN : Nod ns) (hR : Nod rns) (h : Eqv ns rns p r) (h' : Eqv ns rns p' r') : p = p' ↔ r = r' :=
  ⟨fun e => canon hR h.2.1 h'.2.1 fun v => by rw [← h.2.2, ← h'.2.2, e], fun e => canon hN h.1 h'.1 fun v => by rw [h.2.2, h'.2.2, e]⟩
theorem canon_ok {codes : List Int} {K : Bool → Prop} (hc : ∀ x ∈ codes, 0 ≤ x ∧ x < 256) (h : K true) : P_lCanon codes K := by
  unfold P_lCanon S_lCanon
  refine awake_ok (Cnd.yes rfl (made_ok hc (by decide) (by decide) fun pns pids pfull rns rids rfull all M hm hl => Cnd.yes rfl fun _ => ?_))
  refine Lp1.ind (fun i : Int => 0 ≤ i ∧ i ≤ all.length) (fun i => (all.length - i).toNat) (fun i hi => ?_) ⟨by omega, by omega⟩
  refine ⟨fun hlt => ?_, fun _ => ?_⟩
  · refine Lp1.ind (fun k : Int => 0 ≤ k ∧ k ≤ i) (fun k => (i - k).toNat) (fun k hk => ?_) ⟨by omega, by omega⟩
    refine ⟨fun hki => ⟨⟨hi.1, hlt⟩, fun x hx => ⟨⟨hk.1, by omega⟩, fun y hy => ⟨⟨hi.1, hlt⟩, fun x' hx' => ⟨⟨hk.1, by omega⟩, fun y' hy' => ?_⟩⟩⟩⟩, fun _ => ⟨⟨by omega, by omega⟩, ⟨by omega, by omega⟩, by omega⟩⟩
    obtain rfl : x = x' := Option.some.inj (hx.symm.trans hx')
    obtain rfl : y = y' := Option.some.inj (hy.symm.trans hy')
    exact Cnd.yes (decide_eq_decide.2 (Eqv.same M.one.inv.nod M.rone.inv.nod (M.eqv x (List.mem_of_getElem? hx)) (M.eqv y (List.mem_of_getElem? hy)))) ⟨⟨by omega, by omega⟩, ⟨by omega, by omega⟩, by omega⟩
  · have hf := M.one.ful
    subst hf
    exact pFull_ok h
end Go.Dg5
