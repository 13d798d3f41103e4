/- Which numbers are tests and leaves, and what operations give on leaves: alike in the program and in the document. Conditions: none. -/
import Derived.Test.YtkfcnibjlmiboaaDgFull
import Derived.Test.YtkfcnibjlmiboaaPuL
namespace Go.Dg5
open Go.Fl Go.Fx Go.Dg

theorem cond_leaf {ns : List Nd} {l : Int} (h : l < 0) : Cond ns l ↔ l = -1 ∨ l = -2 := by
  constructor
  · intro c
    have := c fun _ => true
    rw [ev_leaf h] at this
    omega
  · intro c v
    rw [ev_leaf h]
    omega
theorem ok_leaf {ns : List Nd} {l : Int} (h : l < 0) : Ok ns l ↔ -1002 < l := ⟨fun a => a.1, fun a => ⟨a, by omega⟩⟩
theorem tb_all {ns : List Nd} (hN : Nod ns) : Tb ns 1001 := fun i h0 hl => by have := (hN.nod i h0 hl).2.1; omega
theorem op_leaf {p : Prop} {ns : List Nd} {ids : Nd → Option Int} {full : Bool} {f g h r : Int} {ns' : List Nd} {ids' : Nd → Option Int} {full' : Bool} (hI : Inv ns ids) (hl : ns.length ≤ 100)
    (hf : f < 0) (hg : g < 0) (hh : h < 0) (hp : p → Cond ns f ∧ Ok ns f ∧ Ok ns g ∧ Ok ns h) (C : OpR p ns ids full f g h r ns' ids' full') : Inv ns' ids' ∧ ns'.length ≤ 100 ∧ ((p ∧ r = if f = -2 then g else h) ∨ (¬ p ∧ r = -1002)) := by
  rcases C with ⟨a, C⟩ | ⟨a, rfl, rfl, rfl, rfl⟩
  · obtain ⟨hc, of, og, oh⟩ := hp a
    obtain ⟨_, few⟩ := C.few 1001 (tb_all hI.nod)
    have hm : mtop ns f g h = 1001 := by
      unfold mtop
      rw [top_neg hf, top_neg hg, top_neg hh]; rfl
    rw [hm] at few
    have hlen : ns'.length ≤ 100 := by
      have : (1001 - 1001 : Int).toNat = 0 := rfl
      rw [this] at few; omega
    obtain ⟨or_, cs, _⟩ := C.res.resolve_left fun e => by have := e.2; omega
    refine ⟨C.grew.inv, hlen, .inl ⟨a, ?_⟩⟩
    refine canon C.grew.inv.nod or_ (b := if f = -2 then g else h) ?_ fun v => ?_
    · split
      · exact og.pre C.grew.pre
      · exact oh.pre C.grew.pre
    · rw [cs v, ev_leaf hf]
      have := (cond_leaf hf).1 hc
      split
      · rw [if_pos (by omega)]
      · rw [if_neg (by omega)]
  · exact ⟨hI, hl, .inr ⟨a, rfl⟩⟩
theorem op_both {p q : Prop} {r r' x : Int} (h : (p ∧ r = x) ∨ (¬ p ∧ r = -1002)) (h' : (q ∧ r' = x) ∨ (¬ q ∧ r' = -1002)) (e : p ↔ q) : r = r' := by
  rcases h with ⟨a, rfl⟩ | ⟨a, rfl⟩
  · rcases h' with ⟨_, rfl⟩ | ⟨b, _⟩
    · rfl
    · exact absurd (e.1 a) b
  · rcases h' with ⟨b, _⟩ | ⟨_, rfl⟩
    · exact absurd (e.2 b) a
    · rfl
theorem node_keep {ns : List Nd} {ids : Nd → Option Int} {full : Bool} {t y m r : Int} {ns' : List Nd} {ids' : Nd → Option Int} {full' : Bool} (hI : Inv ns ids) {k : Nat} (hl : ns.length ≤ k) (hk : k ≤ 3000) (e : node ns ids full t y m = (r, ns', ids', full')) :
    Inv ns' ids' ∧ ns'.length ≤ k + 1 := by
  by_cases hO : NodeOk ns t y m
  · obtain ⟨G, _⟩ := node_ok hI (by omega) hO e
    have := G.most
    exact ⟨G.inv, by omega⟩
  · rw [node_bad hO] at e
    cases e
    exact ⟨hI, by omega⟩
theorem limits_ok {test leaf other : Int} {K : Bool → Prop} (h : K true) : P_lLimits test leaf other K := by
  unfold P_lLimits S_lLimits
  refine awake_ok (Cnd.yes rfl (mod_ok (by omega) (by omega) fun a ha ha' => ⟨⟨by omega, by omega⟩, fun _ => ?_⟩))
  refine Lp1.ind (fun (i : Int) => 0 ≤ i ∧ i ≤ 5) (fun i => (5 - i).toNat) (fun i hi => ?_) ⟨by omega, by omega⟩
  have e5 : (([test, a - (1 : Int), (1000 : Int), (1001 : Int), (-1 : Int)] : List Int).length : Int) = 5 := rfl
  rw [e5]
  refine ⟨fun hlt => ⟨⟨hi.1, hlt⟩, fun t _ => mod_ok (by omega) (by omega) fun b hb hb' => ⟨⟨by omega, by omega⟩, mod_ok (by omega) (by omega) fun c hc hc' _ => ?_⟩⟩, fun _ => h⟩
  refine Lp1.ind (fun (j : Int) => 0 ≤ j ∧ j ≤ 3) (fun j => (3 - j).toNat) (fun j hj => ?_) ⟨by omega, by omega⟩
  have e3 : (([leaf, b - (1 : Int), c] : List Int).length : Int) = 3 := rfl
  rw [e3]
  refine ⟨fun hlt' => ⟨⟨hj.1, hlt'⟩, fun n _ => ?_⟩, fun _ => ⟨⟨by omega, by omega⟩, ⟨by omega, by omega⟩, by omega⟩⟩
  have next : InI (j + 1) ∧ (0 ≤ j + 1 ∧ j + 1 ≤ 3) ∧ (3 - (j + 1)).toNat < (3 - j).toNat := ⟨⟨by omega, by omega⟩, ⟨by omega, by omega⟩, by omega⟩
  unfold P_pNew P_rNew
  refine pLeaf_ok (rLeaf_ok (Cnd.yes rfl (rLeaf_ok ?_)))
  generalize hl : (if 0 ≤ n ∧ n ≤ 1000 then -1 - n else -1002 : Int) = l
  have hln : l < 0 := by subst hl; split <;> omega
  clear hl
  refine pNode_ok (by simp) ?_
  have hI0 := inv_nil
  generalize hq : node [] (fun _ => none) false t l (-1) = q
  obtain ⟨r1, ns1, ids1, f1⟩ := q
  obtain ⟨hI1, hl1⟩ := node_keep (k := 0) hI0 (by simp) (by omega) hq
  refine rNode_ok (by simp) ?_
  rw [hq]
  dsimp only
  refine Cnd.yes rfl (pNode_ok (by omega) ?_)
  generalize hq2 : node ns1 ids1 f1 t (-2) l = q
  obtain ⟨r2, ns2, ids2, f2⟩ := q
  obtain ⟨hI2, hl2⟩ := node_keep hI1 hl1 (by omega) hq2
  refine rNode_ok (by omega) ?_
  rw [hq2]
  dsimp only
  refine Cnd.yes rfl ?_
  clear hq hq2
  refine pNot_ok hI2 (by omega) fun r nsA idsA fA C => rNot_ok hI2 (by omega) fun r' nsB idsB fB C' => ?_
  obtain ⟨hA, hlA, RA⟩ := op_leaf hI2 (by omega) hln (by omega) (by omega) (fun a => ⟨a.2, a.1, ⟨by omega, by omega⟩, ⟨by omega, by omega⟩⟩) C
  obtain ⟨hB, hlB, RB⟩ := op_leaf hI2 (by omega) hln (by omega) (by omega) (fun a => ⟨a.2, a.1, ⟨by omega, by omega⟩, ⟨by omega, by omega⟩⟩) C'
  refine Cnd.yes (op_both RA RB Iff.rfl) ?_
  clear C C' RA RB
  have o2 : ∀ ns : List Nd, Ok ns (-2) ∧ Cond ns (-2) := fun ns => ⟨⟨by omega, by omega⟩, (cond_leaf (by omega)).2 (.inr rfl)⟩
  have o1 : ∀ ns : List Nd, Ok ns (-1) ∧ Cond ns (-1) := fun ns => ⟨⟨by omega, by omega⟩, (cond_leaf (by omega)).2 (.inl rfl)⟩
  have el : ∀ ns ns' : List Nd, (Ok ns l ∧ Cond ns l) ↔ (Ok ns' l ∧ Cond ns' l) := fun ns ns' => by rw [ok_leaf hln, ok_leaf hln, cond_leaf hln, cond_leaf hln]
  refine pAnd_ok hA (by omega) fun r nsC idsC fC C => rAnd_ok hB (by omega) fun r' nsD idsD fD C' => ?_
  obtain ⟨hC, hlC, RC⟩ := op_leaf hA hlA (by omega) hln (by omega) (fun a => ⟨a.2.1, a.1, a.2.2.1, (o1 _).1⟩) C
  obtain ⟨hD, hlD, RD⟩ := op_leaf hB hlB (by omega) hln (by omega) (fun a => ⟨a.2.1, a.1, a.2.2.1, (o1 _).1⟩) C'
  refine Cnd.yes (op_both RC RD ⟨fun a => ⟨(o2 _).1, (o2 _).2, (el _ _).1 a.2.2⟩, fun a => ⟨(o2 _).1, (o2 _).2, (el _ _).1 a.2.2⟩⟩) ?_
  clear C C' RC RD hA hB hlA hlB
  refine pOr_ok hC (by omega) fun r nsA idsA fA C => rOr_ok hD (by omega) fun r' nsB idsB fB C' => ?_
  obtain ⟨hA, hlA, RA⟩ := op_leaf hC hlC hln (by omega) (by omega) (fun a => ⟨a.2.1, a.1, (o2 _).1, a.2.2.1⟩) C
  obtain ⟨hB, hlB, RB⟩ := op_leaf hD hlD hln (by omega) (by omega) (fun a => ⟨a.2.1, a.1, (o2 _).1, a.2.2.1⟩) C'
  refine Cnd.yes (op_both RA RB ⟨fun a => ⟨((el _ nsD).1 ⟨a.1, a.2.1⟩).1, ((el _ nsD).1 ⟨a.1, a.2.1⟩).2, o1 _⟩, fun a => ⟨((el _ nsC).1 ⟨a.1, a.2.1⟩).1, ((el _ nsC).1 ⟨a.1, a.2.1⟩).2, o1 _⟩⟩) ?_
  clear C C' RA RB
  refine pChoose_ok hA (by omega) fun r nsC idsC fC C => rChoose_ok hB (by omega) fun r' nsD idsD fD C' => ?_
  obtain ⟨hC, hlC, RC⟩ := op_leaf hA hlA (by omega) hln (by omega) (fun a => ⟨a.2.1, a.1, a.2.2.1, a.2.2.2⟩) C.op
  obtain ⟨hD, hlD, RD⟩ := op_leaf hB hlB (by omega) hln (by omega) (fun a => ⟨a.2.1, a.1, a.2.2.1, a.2.2.2⟩) C'.op
  refine Cnd.yes (op_both RC RD ⟨fun a => ⟨(o2 _).1, (o2 _).2, (ok_leaf hln).2 a.2.2.1.1, (o1 _).1⟩, fun a => ⟨(o2 _).1, (o2 _).2, (ok_leaf hln).2 a.2.2.1.1, (o1 _).1⟩⟩) next
end Go.Dg5
