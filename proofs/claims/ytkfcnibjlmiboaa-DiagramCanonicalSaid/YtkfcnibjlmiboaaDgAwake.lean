/- The example of the chapter is as the document says. Conditions: none. -/
import Derived.Test.YtkfcnibjlmiboaaDgTop
namespace Go.Dg5
open Go.Fl Go.Fx Go.Dg

theorem inv_nil : Inv [] fun _ => none := ⟨⟨fun i h0 hl => by simp at hl; omega, fun i j h0 hl => by simp at hl; omega⟩, fun n id => by simp; omega⟩
theorem ok_of {ns : List Nd} {id : Int} (h : -1002 < id) (h' : id < ns.length) : Ok ns id := ⟨h, h'⟩
theorem awake_ok {K : Bool → Prop} (h : K true) : P_awake K := by
  unfold P_awake P_pNew
  have hO : NodeOk [] 3 (-2) (-1) := by decide
  have e1 : node [] (fun _ => none) false 3 (-2) (-1) = (0, [(3, -2, -1)], put (fun _ => none) (3, -2, -1) 0, false) := by
    rw [node, if_pos hO, if_neg (by decide)]
    rfl
  have hI : Inv [(3, -2, -1)] (put (fun _ => none) (3, -2, -1) 0) := inv_nil.add (t := 3) (y := -2) (n := -1) (by decide) (by decide) (by decide) (by decide) (by decide) (by decide) (by decide) rfl
  refine pNode_ok (by simp) ?_
  rw [e1]
  simp only
  have o0 : Ok [(3, -2, -1)] 0 := by decide
  have v0 : ∀ v, ev [(3, -2, -1)] v 0 = if v 3 = true then 1 else 0 := fun v => by
    rw [ev_node hI.nod (by decide) (by decide)]
    simp only [nd, Int.toNat_zero, List.getD_cons_zero]
    rw [ev_leaf (by decide), ev_leaf (by decide)]
    rfl
  have c0 : Cond [(3, -2, -1)] 0 := fun v => by rw [v0]; split <;> simp
  have tb : Tb [(3, -2, -1)] 4 := fun i h0 hl => by
    have : i = 0 := by simp at hl; omega
    subst this
    decide
  refine pNot_ok hI (by simp) fun b ns' ids' full' C => ?_
  rcases C with ⟨_, C⟩ | ⟨hn, _⟩
  case inr => exact absurd ⟨o0, c0⟩ hn
  obtain ⟨tb', few⟩ := C.few 4 tb
  have m3 : mtop [(3, -2, -1)] 0 (-1) (-2) = 3 := by decide
  rw [m3] at few
  have hlen : ns'.length ≤ 2 := by simpa using few
  have hp := C.grew.pre
  have hN := C.grew.inv.nod
  have hlen1 : 1 ≤ ns'.length := by simpa using hp.length_le
  have w0 : ∀ v, ev ns' v 0 = if v 3 = true then 1 else 0 := fun v => by rw [ev_pre hI.nod hN hp o0]; exact v0 v
  obtain ⟨ob, sb, _⟩ := C.res.resolve_left fun a => by have := a.2; omega
  have vb : ∀ v, ev ns' v b = if v 3 = true then 0 else 1 := fun v => by
    rw [sb v, w0, ev_leaf (by decide), ev_leaf (by decide)]
    cases v 3 <;> rfl
  have hb : b = 1 := by
    have h1 := vb fun _ => true
    have h2 := vb fun _ => false
    have b1 := ob.1
    have b2 := ob.2
    by_cases hneg : b < 0
    · rw [ev_leaf hneg] at h1 h2
      simp at h1 h2
      omega
    · by_cases hz : b = 0
      · subst hz
        rw [w0] at h1
        simp at h1
      · omega
  subst hb
  refine Cnd.yes (by simp) (Cnd.yes rfl ?_)
  have o0' : Ok ns' 0 := o0.pre hp
  have c0' : Cond ns' 0 := fun v => by rw [w0]; split <;> simp
  refine pAnd_ok C.grew.inv C.grew.len fun r ns2 ids2 full2 A => ?_
  rcases A with ⟨_, A⟩ | ⟨hn, _⟩
  case inr => exact absurd ⟨o0', c0', o0', c0'⟩ hn
  obtain ⟨_, few2⟩ := A.few 4 tb'
  have t0 : top ns' 0 = 3 := by rw [top_pre hp (by decide)]; decide
  have m3' : mtop ns' 0 0 (-1) = 3 := by
    have : top ns' (-1) = 1001 := by simp [top]
    unfold mtop
    rw [t0, this]
    decide
  rw [m3'] at few2
  have hlen2 : ns2.length ≤ 3 := by simp at few2; omega
  have hp2 := A.grew.pre
  have hN2 := A.grew.inv.nod
  obtain ⟨or', sr, _⟩ := A.res.resolve_left fun a => by have := a.2; omega
  have u0 : ∀ v, ev ns2 v 0 = if v 3 = true then 1 else 0 := fun v => by rw [ev_pre hN hN2 hp2 o0']; exact w0 v
  have hr : r = 0 := canon hN2 or' (o0'.pre hp2) fun v => by
    rw [sr v, u0, ev_leaf (show (-1 : Int) < 0 by decide)]
    cases v 3 <;> rfl
  subst hr
  refine Cnd.yes rfl (pRun_ok hN2 ?_)
  rw [if_pos (o0'.pre hp2), u0]
  refine Cnd.yes rfl (pRun_ok hN2 ?_)
  rw [if_pos (ob.pre hp2), ev_pre hN hN2 hp2 ob, vb]
  refine Cnd.yes rfl (pLeaf_ok (Cnd.yes rfl (pSize_ok hN2 A.grew.len fun n hn => ?_)))
  obtain ⟨l, h1, h2, rfl⟩ := hn
  have hnd : nd ns2 0 = (3, -2, -1) := by
    rw [nd_pre hp2 (by omega) (by decide), nd_pre hp (by decide) (by decide)]
    rfl
  have hall : ∀ x, x ∈ l ↔ x = 0 := fun x => by
    rw [h2]
    constructor
    · rintro ⟨_, hx, hr⟩
      cases hr with
      | self => rfl
      | yes _ hr =>
        have hr : Rch ns2 (-2) x := by rw [hnd] at hr; exact hr
        cases hr with
        | self => omega
        | yes h _ => omega
        | no h _ => omega
      | no _ hr =>
        have hr : Rch ns2 (-1) x := by rw [hnd] at hr; exact hr
        cases hr with
        | self => omega
        | yes h _ => omega
        | no h _ => omega
    · rintro rfl
      exact ⟨o0'.pre hp2, by decide, .self _⟩
  have : l = [0] := by
    match l, h1, hall with
    | [], _, hall => exact absurd ((hall 0).2 rfl) (by simp)
    | [a], _, hall => rw [(hall a).1 (by simp)]
    | a :: b :: l, h1, hall =>
      have e1 := (hall a).1 (by simp)
      have e2 := (hall b).1 (by simp)
      subst e1; subst e2
      simp at h1
  subst this
  exact h
end Go.Dg5
