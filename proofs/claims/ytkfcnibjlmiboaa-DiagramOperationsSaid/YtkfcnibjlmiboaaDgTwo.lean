/- Two stores side by side: diagrams of both that stand for the same function, what operations of both leave, and equal leaves and sizes. Conditions: those in the statements. -/
import Derived.Test.YtkfcnibjlmiboaaDgFull
namespace Go.Dg5
open Go.Fl Go.Fx Go.Dg

/-- Diagrams of two stores that stand for the same function. -/
def Eqv (ns rns : List Nd) (p r : Int) : Prop := Ok ns p ∧ Ok rns r ∧ ∀ v, ev ns v p = ev rns v r
theorem Eqv.pre {ns rns ns' rns' : List Nd} {p r : Int} (hN : Nod ns) (hN' : Nod ns') (hp : ns <+: ns') (hR : Nod rns) (hR' : Nod rns') (hp' : rns <+: rns') (h : Eqv ns rns p r) : Eqv ns' rns' p r :=
  ⟨h.1.pre hp, h.2.1.pre hp', fun v => by rw [ev_pre hN hN' hp h.1, ev_pre hR hR' hp' h.2.1]; exact h.2.2 v⟩
theorem Eqv.symm {ns rns : List Nd} {p r : Int} (h : Eqv ns rns p r) : Eqv rns ns r p := ⟨h.2.1, h.1, fun v => (h.2.2 v).symm⟩
theorem Eqv.leaf {ns rns : List Nd} {id : Int} (h : -1002 < id) (h' : id < 0) : Eqv ns rns id id := ⟨⟨h, by omega⟩, ⟨h, by omega⟩, fun v => by rw [ev_leaf h', ev_leaf h']⟩
theorem top_iff {ns : List Nd} (hN : Nod ns) {a t : Int} (ha : Ok ns a) (ht : t ≤ 1000) : t < top ns a ↔ ∀ v w : Int → Bool, (∀ u, t < u → v u = w u) → ev ns v a = ev ns w a := by
  constructor
  · exact fun h v w he => ev_top hN ha fun u hu => he u (by omega)
  · intro h
    refine Classical.byContradiction fun hn => ?_
    have h0 : ¬ a < 0 := fun hneg => by rw [top_neg hneg] at hn; omega
    have e : top ns a = (nd ns a).1 := by simp only [top, if_neg h0]
    obtain ⟨_, _, c1, c2, c3, c4, ne, a1, a2⟩ := hN.nod a (by omega) ha.2
    have h2 := ha.2
    refine ne (canon hN ⟨c1, by omega⟩ ⟨c3, by omega⟩ fun v => ?_)
    rw [← ev_yes hN (by omega) ha.2, ← ev_no hN (by omega) ha.2]
    exact h _ _ fun u hu => by simp only [setB, if_neg (show ¬ u = (nd ns a).1 by omega)]
theorem Eqv.lt {ns rns : List Nd} {p r t : Int} (hN : Nod ns) (hR : Nod rns) (h : Eqv ns rns p r) (ht : t ≤ 1000) : t < top ns p ↔ t < top rns r := by
  rw [top_iff hN h.1 ht, top_iff hR h.2.1 ht]
  exact ⟨fun a v w e => by rw [← h.2.2, ← h.2.2]; exact a v w e, fun a v w e => by rw [h.2.2, h.2.2]; exact a v w e⟩
theorem Eqv.top {ns rns : List Nd} {p r : Int} (hN : Nod ns) (hR : Nod rns) (h : Eqv ns rns p r) : top ns p = top rns r := by
  obtain ⟨_, a2, _⟩ := top_le hN h.1.2
  obtain ⟨_, b2, _⟩ := top_le hR h.2.1.2
  refine Classical.byContradiction fun hn => ?_
  by_cases hlt : Dg.top ns p < Dg.top rns r
  · have := (h.lt hN hR (t := Dg.top ns p) (by omega)).2 hlt
    omega
  · have := (h.lt hN hR (t := Dg.top rns r) (by omega)).1 (by omega)
    omega
theorem top_node {ns : List Nd} {a : Int} (h : 0 ≤ a) : top ns a = (nd ns a).1 := by simp only [top, if_neg (show ¬ a < 0 by omega)]
theorem Eqv.pos {ns rns : List Nd} {p r : Int} (hN : Nod ns) (hR : Nod rns) (h : Eqv ns rns p r) (h0 : 0 ≤ p) : 0 ≤ r := by
  refine Classical.byContradiction fun hn => ?_
  have e := h.top hN hR
  have := (top_le hN h.1.2).2.2 h0
  rw [top_neg (x := r) (by omega)] at e
  omega
theorem Eqv.neg {ns rns : List Nd} {p r : Int} (hN : Nod ns) (hR : Nod rns) (h : Eqv ns rns p r) (h0 : p < 0) : r = p := by
  have hr : r < 0 := Classical.byContradiction fun hn => by have := h.symm.pos hR hN (by omega); omega
  have := h.2.2 fun _ => true
  rw [ev_leaf h0, ev_leaf hr] at this
  omega
theorem Eqv.cond {ns rns : List Nd} {p r : Int} (h : Eqv ns rns p r) : Cond ns p ↔ Cond rns r :=
  ⟨fun a v => by rw [← h.2.2]; exact a v, fun a v => by rw [h.2.2]; exact a v⟩
theorem Eqv.kids {ns rns : List Nd} {p r : Int} (hN : Nod ns) (hR : Nod rns) (h : Eqv ns rns p r) (h0 : 0 ≤ p) : Eqv ns rns (nd ns p).2.1 (nd rns r).2.1 ∧ Eqv ns rns (nd ns p).2.2 (nd rns r).2.2 := by
  have hr := h.pos hN hR h0
  have e := h.top hN hR
  rw [top_node h0, top_node hr] at e
  obtain ⟨k1, k2, _⟩ := Dg5.kids hN h.1 h0
  obtain ⟨l1, l2, _⟩ := Dg5.kids hR h.2.1 hr
  refine ⟨⟨k1, l1, fun v => ?_⟩, k2, l2, fun v => ?_⟩
  · rw [← ev_yes hN h0 h.1.2, ← ev_yes hR hr h.2.1.2, e]; exact h.2.2 _
  · rw [← ev_no hN h0 h.1.2, ← ev_no hR hr h.2.1.2, e]; exact h.2.2 _
theorem Eqv.rch {ns rns : List Nd} {p r x : Int} (hN : Nod ns) (hR : Nod rns) (hx : Rch ns p x) : Eqv ns rns p r → ∃ y, Rch rns r y ∧ Eqv ns rns x y := by
  intro h
  induction hx generalizing r with
  | self => exact ⟨r, .self _, h⟩
  | yes h0 _ ih =>
    obtain ⟨y, h1, h2⟩ := ih (h.kids hN hR h0).1
    exact ⟨y, .yes (h.pos hN hR h0) h1, h2⟩
  | no h0 _ ih =>
    obtain ⟨y, h1, h2⟩ := ih (h.kids hN hR h0).2
    exact ⟨y, .no (h.pos hN hR h0) h1, h2⟩
theorem Eqv.leaves {ns rns : List Nd} {p r : Int} (hN : Nod ns) (hR : Nod rns) (h : Eqv ns rns p r) {l l' : List Int} (hl : Lvs ns p l) (hl' : Lvs rns r l') : l = l' := by
  refine Lvs.one hl (ns := ns) (id := p) ⟨hl'.1, fun n => (hl'.2 n).trans ⟨fun ⟨_, b, c⟩ => ⟨h.1, b, ?_⟩, fun ⟨_, b, c⟩ => ⟨h.2.1, b, ?_⟩⟩⟩
  · obtain ⟨y, h1, h2⟩ := h.symm.rch hR hN c
    rw [h2.neg hR hN (by omega)] at h1; exact h1
  · obtain ⟨y, h1, h2⟩ := h.rch hN hR c
    rw [h2.neg hN hR (by omega)] at h1; exact h1
theorem Szn.le {ns rns : List Nd} {p r n n' : Int} (hN : Nod ns) (hR : Nod rns) (h : Eqv ns rns p r) (hn : Szn ns p n) (hn' : Szn rns r n') : n ≤ n' := by
  obtain ⟨l, h1, h2, rfl⟩ := hn
  obtain ⟨l', k1, k2, rfl⟩ := hn'
  have hex : ∀ x, ∃ y, x ∈ l → Rch rns r y ∧ Eqv ns rns x y := fun x => by
    by_cases hx : x ∈ l
    · obtain ⟨y, hy⟩ := h.rch hN hR ((h2 x).1 hx).2.2
      exact ⟨y, fun _ => hy⟩
    · exact ⟨0, fun a => absurd a hx⟩
  have hd : (l.map fun x => (hex x).choose).Nodup := by
    rw [List.Nodup, List.pairwise_map]
    refine List.Pairwise.imp_of_mem (fun {x y} hx hy hne he => ?_) h1
    have sx := (hex x).choose_spec hx
    have sy := (hex y).choose_spec hy
    refine hne (canon hN sx.2.1 sy.2.1 fun v => ?_)
    rw [sx.2.2.2 v, sy.2.2.2 v, he]
  have := nodup_le hd (l' := l') fun y hy => by
    obtain ⟨x, hx, rfl⟩ := List.mem_map.1 hy
    have hs := (hex x).choose_spec hx
    exact (k2 _).2 ⟨h.2.1, hs.2.pos hN hR ((h2 x).1 hx).2.1, hs.1⟩
  simp at this
  omega
theorem Szn.eq {ns rns : List Nd} {p r n n' : Int} (hN : Nod ns) (hR : Nod rns) (h : Eqv ns rns p r) (hn : Szn ns p n) (hn' : Szn rns r n') : n = n' := by
  have := hn.le hN hR h hn'
  have := hn'.le hR hN h.symm hn
  omega

/-- A store of diagrams over six tests, with room. -/
structure One (ns : List Nd) (ids : Nd → Option Int) (full : Bool) (n : Int) : Prop where
  inv : Inv ns ids
  tb : Tb ns 6
  len : ns.length ≤ n
  ful : full = false
theorem One.nil {n : Int} (h : 0 ≤ n) : One [] (fun _ => none) false n := ⟨inv_nil, fun i h0 hl => by simp at hl; omega, by simp; exact h, rfl⟩
theorem One.mono {ns : List Nd} {ids : Nd → Option Int} {full : Bool} {n m : Int} (h : One ns ids full n) (hm : n ≤ m) : One ns ids full m := ⟨h.inv, h.tb, by have := h.len; omega, h.ful⟩
theorem One.cho {ns ns' : List Nd} {ids ids' : Nd → Option Int} {full full' : Bool} {n f g h r : Int} (T : One ns ids full n) (hn : n ≤ 3900) (hf : Ok ns f) (hg : Ok ns g) (hh : Ok ns h)
    (C : Cho ns ids full f g h r ns' ids' full') : One ns' ids' full' (n + 63) ∧ ns <+: ns' ∧ Ok ns' r ∧ Cse ns' f g h r := by
  obtain ⟨tb', few⟩ := C.few 6 T.tb
  have hm : 0 ≤ mtop ns f g h := by
    have := (top_le T.inv.nod hf.2).1
    have := (top_le T.inv.nod hg.2).1
    have := (top_le T.inv.nod hh.2).1
    unfold mtop; omega
  have hp : 2 ^ (6 - mtop ns f g h).toNat ≤ 2 ^ 6 := Nat.pow_le_pow_right (by omega) (by omega)
  have hl := T.len
  have hlen : (ns'.length : Int) ≤ n + 63 := by omega
  obtain ⟨a, b, _⟩ := C.res.resolve_left fun a => by have := a.2; omega
  refine ⟨⟨C.grew.inv, tb', hlen, ?_⟩, C.grew.pre, a, b⟩
  rcases C.grew.room with e | e
  · rw [e]; exact T.ful
  · omega
theorem One.node {ns ns' : List Nd} {ids ids' : Nd → Option Int} {full full' : Bool} {n t y m r : Int} (T : One ns ids full n) (hn : n ≤ 3900) (ht : t < 6) (hO : NodeOk ns t y m)
    (he : Dg.node ns ids full t y m = (r, ns', ids', full')) : One ns' ids' full' (n + 63) ∧ ns <+: ns' ∧ Ok ns' r ∧ ∀ v, ev ns' v r = if v t = true then ev ns v y else ev ns v m := by
  have hl := T.len
  obtain ⟨G, tb, R⟩ := node_ok T.inv (by omega) hO he
  have := G.most
  obtain ⟨a, b, _, d⟩ := R.resolve_left fun a => by have := a.2.1; omega
  exact ⟨⟨G.inv, tb 6 T.tb ht, by omega, by rw [a]; exact T.ful⟩, G.pre, b, d⟩
/-- What is added: two that stand for the same, or none at both. -/
def Res (ns rns : List Nd) (p r : Int) : Prop := (p = -1002 ∧ r = -1002) ∨ Eqv ns rns p r
theorem two_op {ns ns' rns rns' : List Nd} {ids ids' rids rids' : Nd → Option Int} {full full' rfull rfull' : Bool} {n f g h r f' g' h' r' : Int} {p q : Prop} (T : One ns ids full n) (R : One rns rids rfull n) (hn : n ≤ 3900)
    (hpq : p ↔ q) (he : p → Eqv ns rns f f' ∧ Eqv ns rns g g' ∧ Eqv ns rns h h') (C : OpR p ns ids full f g h r ns' ids' full') (C' : OpR q rns rids rfull f' g' h' r' rns' rids' rfull') :
    One ns' ids' full' (n + 63) ∧ One rns' rids' rfull' (n + 63) ∧ ns <+: ns' ∧ rns <+: rns' ∧ Res ns' rns' r r' := by
  rcases C with ⟨hp, C⟩ | ⟨hp, rfl, rfl, rfl, rfl⟩
  · rcases C' with ⟨hq, C'⟩ | ⟨hq, _⟩
    · obtain ⟨e1, e2, e3⟩ := he hp
      obtain ⟨a1, a2, a3, a4⟩ := T.cho hn e1.1 e2.1 e3.1 C
      obtain ⟨b1, b2, b3, b4⟩ := R.cho hn e1.2.1 e2.2.1 e3.2.1 C'
      refine ⟨a1, b1, a2, b2, .inr ⟨a3, b3, fun v => ?_⟩⟩
      have up : ∀ {a b : Int}, Eqv ns rns a b → ev ns' v a = ev rns' v b := fun h => (h.pre T.inv.nod a1.inv.nod a2 R.inv.nod b1.inv.nod b2).2.2 v
      rw [a4 v, b4 v, up e1, up e2, up e3]
    · exact absurd (hpq.1 hp) hq
  · rcases C' with ⟨hq, C'⟩ | ⟨hq, rfl, rfl, rfl, rfl⟩
    · exact absurd (hpq.2 hq) hp
    · exact ⟨T.mono (by omega), R.mono (by omega), List.prefix_refl _, List.prefix_refl _, .inl ⟨rfl, rfl⟩⟩
theorem two_node {ns ns' rns rns' : List Nd} {ids ids' rids rids' : Nd → Option Int} {full full' rfull rfull' : Bool} {n t y m r y' m' r' : Int} (T : One ns ids full n) (R : One rns rids rfull n) (hn : n ≤ 3900) (ht : t < 6)
    (ey : Eqv ns rns y y') (em : Eqv ns rns m m') (e : Dg.node ns ids full t y m = (r, ns', ids', full')) (e' : Dg.node rns rids rfull t y' m' = (r', rns', rids', rfull')) :
    One ns' ids' full' (n + 63) ∧ One rns' rids' rfull' (n + 63) ∧ ns <+: ns' ∧ rns <+: rns' ∧ Res ns' rns' r r' := by
  have hi : NodeOk ns t y m ↔ NodeOk rns t y' m' := by
    unfold NodeOk
    refine and_congr_right fun _ => and_congr_right fun h2 => ⟨fun ⟨_, _, a, b⟩ => ⟨ey.2.1, em.2.1, (ey.lt T.inv.nod R.inv.nod h2).1 a, (em.lt T.inv.nod R.inv.nod h2).1 b⟩,
      fun ⟨_, _, a, b⟩ => ⟨ey.1, em.1, (ey.lt T.inv.nod R.inv.nod h2).2 a, (em.lt T.inv.nod R.inv.nod h2).2 b⟩⟩
  by_cases hO : NodeOk ns t y m
  · obtain ⟨a1, a2, a3, a4⟩ := T.node hn ht hO e
    obtain ⟨b1, b2, b3, b4⟩ := R.node hn ht (hi.1 hO) e'
    exact ⟨a1, b1, a2, b2, .inr ⟨a3, b3, fun v => by rw [a4, b4, ey.2.2, em.2.2]⟩⟩
  · rw [node_bad hO] at e
    rw [node_bad fun h => hO (hi.2 h)] at e'
    cases e
    cases e'
    exact ⟨T.mono (by omega), R.mono (by omega), List.prefix_refl _, List.prefix_refl _, .inl ⟨rfl, rfl⟩⟩
end Go.Dg5
