/- What the questions at a diagram answer: its leaves, its size and its nodes. Conditions: those in the statements. -/
import Derived.Test.YtkfcnibjlmiboaaDgMade
import Derived.Test.YtkfcnibjlmiboaaDgFull
namespace Go.Dg5
open Go.Fl Go.Fx Go.Dg

theorem same_ok {l : List Int} {K : Bool → Prop} (hl : l.length ≤ 100000) (h : K true) : P_Same l l K := by
  unfold P_Same
  refine fun _ _ => Cnd.yes rfl ?_
  refine Lp1.ind (fun i : Int => 0 ≤ i ∧ i ≤ l.length) (fun i => (l.length - i).toNat) (fun i hi => ?_) ⟨by omega, by omega⟩
  exact fun _ => ⟨fun hlt => ⟨⟨hi.1, hlt⟩, fun y hy => ⟨⟨hi.1, hlt⟩, fun z hz => Cnd.yes (Option.some.inj (hy.symm.trans hz)) ⟨⟨by omega, by omega⟩, ⟨by omega, by omega⟩, by omega⟩⟩⟩, fun _ => h⟩
theorem pAt_ok {ns : List Nd} {ids : Nd → Option Int} {full : Bool} {id : Int} {K : Nd → Bool → List Nd → (Nd → Option Int) → Bool → Prop}
    (h1 : 0 ≤ id → id < ns.length → K (nd ns id) true ns ids full) (h2 : ¬ (0 ≤ id ∧ id < ns.length) → K (0, 0, 0) false ns ids full) : P_pAt ns ids full id K := by
  unfold P_pAt
  refine ⟨fun h => h2 (by omega), fun h _ => ⟨fun h' => h2 (by omega), fun h' => ⟨⟨by omega, by omega⟩, fun y hy => ?_⟩⟩⟩
  have := h1 (by omega) (by omega)
  rw [nd_get hy] at this
  exact this
/-- What an id of no diagram answers. -/
def P_none (ns : List Nd) (ids : Nd → Option Int) (full : Bool) (id : Int) (K : Bool → Prop) : Prop :=
  P_pAt ns ids full id fun _ b ns ids full => Cnd (b = true) (K false) (P_pRun ns ids full id [] fun n ns ids full => Cnd (n = (-1 : Int))
    (P_pLeaves ns ids full id fun l ns ids full => l.length ≤ (9223372036854775807 : Nat) → Cnd ((↑l.length : Int) = (0 : Int))
      (P_pSize ns ids full id fun n ns ids full => Cnd (n = (0 : Int))
        (P_pNot ns ids full id fun n ns ids full => Cnd (n = (-1002 : Int))
          (P_pAnd ns ids full id (-2 : Int) fun n ns ids full => Cnd (n = (-1002 : Int))
            (P_pNode ns ids full (0 : Int) id (-1 : Int) fun n _ _ _ => K (decide (n = (-1002 : Int)))) (K false)) (K false)) (K false)) (K false)) (K false))
theorem none_ok {ns : List Nd} {ids : Nd → Option Int} {full : Bool} {n id : Int} {K : Bool → Prop} (T : One ns ids full n) (hn : n ≤ 3900) (hid : ¬ Ok ns id) (h : K true) : P_none ns ids full id K := by
  have hN := T.inv.nod
  have hl := T.len
  unfold P_none
  refine pAt_ok (fun a b => absurd ⟨by omega, b⟩ hid) fun _ => Cnd.no (by decide) (pRun_ok hN ?_)
  rw [if_neg hid]
  refine Cnd.yes rfl (pLeaves_ok hN (by omega) fun l hl' _ => ?_)
  have hl0 : l = [] := List.eq_nil_iff_forall_not_mem.2 fun x hx => hid ((hl'.2 x).1 hx).1
  subst hl0
  refine Cnd.yes rfl (pSize_ok hN (by omega) fun m hm => ?_)
  obtain ⟨l, _, h2, rfl⟩ := hm
  have hl0 : l = [] := List.eq_nil_iff_forall_not_mem.2 fun x hx => hid ((h2 x).1 hx).1
  subst hl0
  refine Cnd.yes rfl (pNot_ok T.inv (by omega) fun r ns' ids' full' C => ?_)
  rcases C with ⟨a, _⟩ | ⟨_, rfl, rfl, rfl, rfl⟩
  · exact absurd a.1 hid
  refine Cnd.yes rfl (pAnd_ok T.inv (by omega) fun r ns' ids' full' C => ?_)
  rcases C with ⟨a, _⟩ | ⟨_, rfl, rfl, rfl, rfl⟩
  · exact absurd a.1 hid
  refine Cnd.yes rfl (pNode_ok (by omega) ?_)
  rw [node_bad fun a => hid a.2.2.1]
  exact h
theorem questions_ok {codes : List Int} {id : Int} {K : Bool → Prop} (hc : ∀ x ∈ codes, 0 ≤ x ∧ x < 256) (h : K true) : P_lQuest codes id K := by
  unfold P_lQuest S_lQuest
  refine awake_ok (Cnd.yes rfl (made_ok hc (by decide) (by decide) fun pns pids pfull rns rids rfull all M hm hl => Cnd.yes rfl fun _ => ?_))
  have hN := M.one.inv.nod
  have hR := M.rone.inv.nod
  have hpl := M.one.len
  have hrl := M.rone.len
  refine LpH.ind (fun t => ∃ i : Int, t = (i, pns, pfull, rns, rfull, pids, rids, ()) ∧ 0 ≤ i ∧ i ≤ all.length) (fun t => (all.length - t.1).toNat) (fun t ht => ?_) ⟨0, rfl, by omega, by omega⟩
  obtain ⟨i, rfl, h0, h1⟩ := ht
  dsimp only
  refine ⟨fun hlt => ⟨⟨h0, hlt⟩, fun y hy => ?_⟩, fun hge => ?_⟩
  · have E := M.eqv y (List.mem_of_getElem? hy)
    refine pLeaves_ok hN (by omega) fun l1 hl1 => rLeaves_ok hR (by omega) fun l2 hl2 => ?_
    obtain rfl := E.leaves hN hR hl1 hl2
    have hsm : l1.length ≤ 100000 := by
      have hnd : l1.Nodup := hl1.1.imp fun h => by omega
      have := nodup_le hnd (l' := (univ pns).map fun x => -1 - x) fun x hx => List.mem_map.2 ⟨-1 - x, mem_univ ((((hl1.2 x).1 hx).2.2).ok hN E.1), by omega⟩
      simp [univ] at this
      omega
    refine same_ok hsm (Cnd.yes rfl (pSize_ok hN (by omega) fun n1 hn1 => rSize_ok hR (by omega) fun n2 hn2 => ?_))
    refine Cnd.yes (hn1.eq hN hR E hn2) ?_
    have next : InI (i + 1) ∧ (∃ i' : Int, (i + 1, pns, pfull, rns, rfull, pids, rids, ()) = (i', pns, pfull, rns, rfull, pids, rids, ()) ∧ 0 ≤ i' ∧ i' ≤ all.length) ∧ (all.length - (i + 1)).toNat < (all.length - i).toNat :=
      ⟨⟨by omega, by omega⟩, ⟨i + 1, rfl, by omega, by omega⟩, by omega⟩
    refine pAt_ok (fun p0 p1 => ?_) fun pn => ?_
    · obtain ⟨t0, t1, _, _, _, _, hne, hy1, hy2⟩ := hN.nod _ p0 p1
      obtain ⟨k1, k2, _⟩ := kids hN E.1 p0
      have hids : pids (nd pns y.1) = some y.1 := (M.one.inv.ids _ _).2 ⟨p0, p1, rfl⟩
      have hnode : node pns pids pfull (nd pns y.1).1 (nd pns y.1).2.1 (nd pns y.1).2.2 = (y.1, pns, pids, pfull) := node_old ⟨t0, t1, k1, k2, hy1, hy2⟩ hne hids
      have fin : P_pNode pns pids pfull (nd pns y.1).1 (nd pns y.1).2.1 (nd pns y.1).2.2 fun x14_0 x14_1 Y14_2 x14_3 => Cnd (x14_0 = y.1)
          (InI (i + (1 : Int)) ∧ (∃ i' : Int, (i + 1, x14_1, x14_3, rns, rfull, Y14_2, rids, ()) = (i', pns, pfull, rns, rfull, pids, rids, ()) ∧ 0 ≤ i' ∧ i' ≤ all.length) ∧ (all.length - (i + 1)).toNat < (all.length - i).toNat) (K false) := by
        refine pNode_ok (by omega) ?_
        rw [hnode]
        exact Cnd.yes rfl next
      refine Cnd.yes (decide_eq_true p0).symm (Cnd.yes rfl (Cnd.yes rfl ?_))
      refine pAt_ok (fun a0 a1 => pAt_ok (fun b0 b1 => Cnd.no hne (Cnd.yes rfl (Cnd.no ?_ (Cnd.yes rfl (Cnd.no ?_ fin))))) fun bn => Cnd.no hne (Cnd.yes rfl (Cnd.no ?_ (Cnd.no (by decide) fin))))
        fun an => pAt_ok (fun b0 b1 => Cnd.no hne (Cnd.no (by decide) (Cnd.yes rfl (Cnd.no ?_ fin)))) fun bn => Cnd.no hne (Cnd.no (by decide) (Cnd.no (by decide) fin))
      · rw [top_node a0] at hy1; omega
      · rw [top_node b0] at hy2; omega
      · rw [top_node a0] at hy1; omega
      · rw [top_node b0] at hy2; omega
    · have e := E.1.2
      exact Cnd.yes (decide_eq_false (by omega)).symm (Cnd.no (by decide) (Cnd.yes ⟨rfl, rfl, rfl⟩ (Cnd.no (by decide) next)))
  · have fin : ¬ (-1002 < id ∧ id < 4000) → P_none pns pids pfull id K := fun hb => none_ok M.one (by omega) (fun a => hb ⟨a.1, by have := a.2; omega⟩) h
    exact ⟨fun a => ⟨fun _ => h, fun b => ⟨fun c => absurd c (by omega), fun _ => fin (by omega)⟩⟩, fun a => ⟨fun _ => ⟨fun _ => h, fun c => fin (by omega)⟩, fun c => absurd (show id < 0 by omega) c⟩⟩
end Go.Dg5
