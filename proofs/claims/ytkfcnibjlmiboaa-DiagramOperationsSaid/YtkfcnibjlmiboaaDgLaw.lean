/- Plain law of reduced ordered decision diagrams: what an id stands for, that equal functions have equal ids, and what a new node does. Conditions: those in the statements. -/
import Derived.Test.YtkfcnibjlmiboaaFlMapK
namespace Go.Dg
open Go.Fl

abbrev Nd := Int × Int × Int
def nd (ns : List Nd) (id : Int) : Nd := ns.getD id.toNat (0, 0, 0)
def top (ns : List Nd) (id : Int) : Int := if id < 0 then 1001 else (nd ns id).1
def Ok (ns : List Nd) (id : Int) : Prop := -1002 < id ∧ id < ns.length
/-- The leaf to which an id leads. -/
def evF (ns : List Nd) (h : Int → Bool) : Nat → Int → Int
  | 0, id => -1 - id
  | n + 1, id => if id < 0 then -1 - id else evF ns h n (if h (nd ns id).1 = true then (nd ns id).2.1 else (nd ns id).2.2)
def ev (ns : List Nd) (h : Int → Bool) (id : Int) : Int := evF ns h (id.toNat + 1) id

structure Nod (ns : List Nd) : Prop where
  nod : ∀ i : Int, 0 ≤ i → i < ns.length → 0 ≤ (nd ns i).1 ∧ (nd ns i).1 ≤ 1000 ∧ -1002 < (nd ns i).2.1 ∧ (nd ns i).2.1 < i ∧ -1002 < (nd ns i).2.2 ∧ (nd ns i).2.2 < i ∧
    (nd ns i).2.1 ≠ (nd ns i).2.2 ∧ (nd ns i).1 < top ns (nd ns i).2.1 ∧ (nd ns i).1 < top ns (nd ns i).2.2
  one : ∀ i j : Int, 0 ≤ i → i < ns.length → 0 ≤ j → j < ns.length → nd ns i = nd ns j → i = j
structure Inv (ns : List Nd) (ids : Nd → Option Int) : Prop where
  nod : Nod ns
  ids : ∀ n (id : Int), ids n = some id ↔ 0 ≤ id ∧ id < ns.length ∧ nd ns id = n

theorem ev_leaf {ns : List Nd} {h : Int → Bool} {id : Int} (hi : id < 0) : ev ns h id = -1 - id := by
  simp [ev, evF, hi]
theorem evF_fuel {ns : List Nd} (hN : Nod ns) {h : Int → Bool} : ∀ (n m : Nat) (id : Int), id < ns.length → id < n → id < m → evF ns h n id = evF ns h m id := by
  intro n
  induction n with
  | zero =>
    intro m id _ h1 _
    have : id < 0 := by omega
    cases m with
    | zero => rfl
    | succ m => simp [evF, this]
  | succ n ih =>
    intro m id hl h1 h2
    cases m with
    | zero =>
      have : id < 0 := by omega
      simp [evF, this]
    | succ m =>
      simp only [evF]
      by_cases hi : id < 0
      · simp [hi]
      · simp only [hi, if_false]
        obtain ⟨_, _, _, a, _, b, _⟩ := hN.nod id (by omega) hl
        cases ht : h (nd ns id).1 with
        | true => simp only [if_true]; exact ih m _ (by omega) (by omega) (by omega)
        | false => simp only [Bool.false_eq_true, if_false]; exact ih m _ (by omega) (by omega) (by omega)
theorem ev_node {ns : List Nd} (hN : Nod ns) {h : Int → Bool} {id : Int} (hi : 0 ≤ id) (hl : id < ns.length) :
    ev ns h id = if h (nd ns id).1 = true then ev ns h (nd ns id).2.1 else ev ns h (nd ns id).2.2 := by
  obtain ⟨_, _, _, a, _, b, _⟩ := hN.nod id hi hl
  have hn : ¬ id < 0 := by omega
  show evF ns h (id.toNat + 1) id = _
  simp only [evF, hn, if_false]
  cases ht : h (nd ns id).1 with
  | true => simp only [if_true]; exact evF_fuel hN _ _ _ (by omega) (by omega) (by omega)
  | false => simp only [Bool.false_eq_true, if_false]; exact evF_fuel hN _ _ _ (by omega) (by omega) (by omega)
theorem top_le {ns : List Nd} (hN : Nod ns) {id : Int} (hl : id < ns.length) : 0 ≤ top ns id ∧ top ns id ≤ 1001 ∧ (0 ≤ id → top ns id ≤ 1000) := by
  by_cases hi : id < 0
  · simp only [top, hi, if_true]; omega
  · obtain ⟨a, b, _⟩ := hN.nod id (by omega) hl
    simp only [top, hi, if_false]; omega
/-- Induction over the nodes of a store. -/
theorem ind {ns : List Nd} (hN : Nod ns) {p : Int → Prop} (h0 : ∀ id : Int, -1002 < id → id < 0 → p id)
    (h1 : ∀ id : Int, 0 ≤ id → id < ns.length → p (nd ns id).2.1 → p (nd ns id).2.2 → p id) {id : Int} (hi : Ok ns id) : p id := by
  have key : ∀ (k : Nat) (id : Int), id < k → Ok ns id → p id := by
    intro k
    induction k with
    | zero => exact fun id hk hi => h0 id hi.1 hk
    | succ k ih =>
      intro id hk hi
      by_cases hn : id < 0
      · exact h0 id hi.1 hn
      · obtain ⟨_, _, a, b, c, d, _⟩ := hN.nod id (by omega) hi.2
        have := hi.2
        exact h1 id (by omega) hi.2 (ih _ (by omega) ⟨a, by omega⟩) (ih _ (by omega) ⟨c, by omega⟩)
  exact key (id.toNat + 1) id (by omega) hi
/-- Only tests from the top on count. -/
theorem ev_top {ns : List Nd} (hN : Nod ns) {h h' : Int → Bool} {id : Int} (hi : Ok ns id) : (∀ t, top ns id ≤ t → h t = h' t) → ev ns h id = ev ns h' id := by
  refine ind hN (p := fun id => (∀ t, top ns id ≤ t → h t = h' t) → ev ns h id = ev ns h' id) ?_ ?_ hi
  · intro id _ hn _
    rw [ev_leaf hn, ev_leaf hn]
  · intro id hp hl ih1 ih2 he
    obtain ⟨_, _, _, _, _, _, _, a, b⟩ := hN.nod id hp hl
    have ht : top ns id = (nd ns id).1 := by simp only [top, if_neg (show ¬ id < 0 by omega)]
    rw [ev_node hN hp hl, ev_node hN hp hl, ← he _ (by omega), ih1 fun t h => he t (by omega), ih2 fun t h => he t (by omega)]
def setB (h : Int → Bool) (t : Int) (b : Bool) : Int → Bool := fun x => if x = t then b else h x
theorem ev_set {ns : List Nd} (hN : Nod ns) {h : Int → Bool} {t : Int} {b : Bool} {id : Int} (hi : Ok ns id) (ht : t < top ns id) : ev ns (setB h t b) id = ev ns h id :=
  ev_top hN hi fun x hx => by simp only [setB, if_neg (show ¬ x = t by omega)]
theorem ev_yes {ns : List Nd} (hN : Nod ns) {h : Int → Bool} {id : Int} (hi : 0 ≤ id) (hl : id < ns.length) : ev ns (setB h (nd ns id).1 true) id = ev ns h (nd ns id).2.1 := by
  obtain ⟨_, _, c, d, _, _, _, a, b⟩ := hN.nod id hi hl
  rw [ev_node hN hi hl]
  simp only [setB, if_true]
  exact ev_set hN ⟨c, by omega⟩ a
theorem ev_no {ns : List Nd} (hN : Nod ns) {h : Int → Bool} {id : Int} (hi : 0 ≤ id) (hl : id < ns.length) : ev ns (setB h (nd ns id).1 false) id = ev ns h (nd ns id).2.2 := by
  obtain ⟨_, _, _, _, c, d, _, a, b⟩ := hN.nod id hi hl
  rw [ev_node hN hi hl]
  simp only [setB, if_true]
  exact ev_set hN ⟨c, by omega⟩ b
/-- Equal functions have equal ids. -/
theorem canon {ns : List Nd} (hN : Nod ns) : ∀ {a b : Int}, Ok ns a → Ok ns b → (∀ h, ev ns h a = ev ns h b) → a = b := by
  have key : ∀ (k : Nat) (a b : Int), a < k → b < k → Ok ns a → Ok ns b → (∀ h, ev ns h a = ev ns h b) → a = b := by
    intro k
    induction k with
    | zero =>
      intro a b hk hk' _ _ he
      have := he fun _ => true
      rw [ev_leaf (by omega), ev_leaf (by omega)] at this
      omega
    | succ k ih =>
      intro a b hk hk' ha hb he
      -- one side's top lies above: its two sides are the same
      have up : ∀ a b : Int, a < ((k + 1 : Nat) : Int) → b < ((k + 1 : Nat) : Int) → Ok ns a → Ok ns b → (∀ h, ev ns h a = ev ns h b) → 0 ≤ a → top ns a < top ns b → False := by
        intro a b hk hk' ha hb he hp ht
        obtain ⟨_, _, c1, c2, c3, c4, ne, a1, a2⟩ := hN.nod a hp ha.2
        have h1 := ha.2
        have e : top ns a = (nd ns a).1 := by simp only [top, if_neg (show ¬ a < 0 by omega)]
        refine ne (ih _ _ (by omega) (by omega) ⟨c1, by omega⟩ ⟨c3, by omega⟩ fun h => ?_)
        rw [← ev_yes hN hp ha.2, ← ev_no hN hp ha.2, he, he, ev_set hN hb (by omega), ev_set hN hb (by omega)]
      by_cases ha0 : a < 0
      · by_cases hb0 : b < 0
        · have := he fun _ => true
          rw [ev_leaf ha0, ev_leaf hb0] at this
          omega
        · exact absurd (by
            have := (top_le hN hb.2).2.2 (by omega)
            have h2 : top ns a = 1001 := by simp only [top, if_pos ha0]
            omega) (fun h => up b a hk' hk hb ha (fun h => (he h).symm) (by omega) h)
      · by_cases hb0 : b < 0
        · exact absurd (by
            have := (top_le hN ha.2).2.2 (by omega)
            have h2 : top ns b = 1001 := by simp only [top, if_pos hb0]
            omega) (fun h => up a b hk hk' ha hb he (by omega) h)
        · have h1 := ha.2
          have h2 := hb.2
          rcases Int.lt_trichotomy (top ns a) (top ns b) with h | h | h
          · exact (up a b hk hk' ha hb he (by omega) h).elim
          · have ea : top ns a = (nd ns a).1 := by simp only [top, if_neg ha0]
            have eb : top ns b = (nd ns b).1 := by simp only [top, if_neg hb0]
            have et : (nd ns a).1 = (nd ns b).1 := by omega
            obtain ⟨_, _, c1, c2, c3, c4, _⟩ := hN.nod a (by omega) ha.2
            obtain ⟨_, _, d1, d2, d3, d4, _⟩ := hN.nod b (by omega) hb.2
            have ey : (nd ns a).2.1 = (nd ns b).2.1 := ih _ _ (by omega) (by omega) ⟨c1, by omega⟩ ⟨d1, by omega⟩ fun h => by
              rw [← ev_yes hN (by omega) ha.2, ← ev_yes hN (by omega) hb.2, ← et, he]
            have en : (nd ns a).2.2 = (nd ns b).2.2 := ih _ _ (by omega) (by omega) ⟨c3, by omega⟩ ⟨d3, by omega⟩ fun h => by
              rw [← ev_no hN (by omega) ha.2, ← ev_no hN (by omega) hb.2, ← et, he]
            exact hN.one a b (by omega) ha.2 (by omega) hb.2 (Prod.ext et (Prod.ext ey en))
          · exact (up b a hk' hk hb ha (fun h => (he h).symm) (by omega) h).elim
  exact fun {a b} ha hb he => key (ns.length + 1) a b (by have := ha.2; omega) (by have := hb.2; omega) ha hb he

/-! Stores that grow. -/
theorem nd_app {ns ms : List Nd} {id : Int} (h1 : id < ns.length) (h0 : 0 ≤ id) : nd (ns ++ ms) id = nd ns id := by
  simp only [nd, List.getD_eq_getElem?_getD]
  rw [List.getElem?_append_left (by omega)]
theorem nd_pre {ns ns' : List Nd} (hp : ns <+: ns') {id : Int} (h1 : id < ns.length) (h0 : 0 ≤ id) : nd ns' id = nd ns id := by
  obtain ⟨ms, rfl⟩ := hp
  exact nd_app h1 h0
theorem top_pre {ns ns' : List Nd} (hp : ns <+: ns') {id : Int} (h1 : id < ns.length) : top ns' id = top ns id := by
  by_cases h : id < 0
  · simp only [top, if_pos h]
  · simp only [top, if_neg h, nd_pre hp h1 (by omega)]
theorem Ok.pre {ns ns' : List Nd} (hp : ns <+: ns') {id : Int} (h : Ok ns id) : Ok ns' id := by
  have := hp.length_le
  exact ⟨h.1, by have := h.2; omega⟩
theorem ev_pre {ns ns' : List Nd} (hN : Nod ns) (hN' : Nod ns') (hp : ns <+: ns') {h : Int → Bool} {id : Int} (hi : Ok ns id) : ev ns' h id = ev ns h id := by
  refine ind hN (p := fun id => ev ns' h id = ev ns h id) ?_ ?_ hi
  · intro id _ hn
    rw [ev_leaf hn, ev_leaf hn]
  · intro id h0 hl i1 i2
    have hl' := hp.length_le
    rw [ev_node hN h0 hl, ev_node hN' h0 (by omega), nd_pre hp hl h0, i1, i2]
/-- All tests lie below a bound. -/
def Tb (ns : List Nd) (b : Int) : Prop := ∀ i : Int, 0 ≤ i → i < ns.length → (nd ns i).1 < b
theorem nd_last {ns : List Nd} {n : Nd} : nd (ns ++ [n]) ns.length = n := by
  simp [nd, List.getD_eq_getElem?_getD]
/-- A new node. -/
theorem Nod.add {ns : List Nd} (hN : Nod ns) {t y n : Int} (ht : 0 ≤ t) (ht' : t ≤ 1000) (hy : Ok ns y) (hn : Ok ns n) (hne : y ≠ n) (h1 : t < top ns y) (h2 : t < top ns n)
    (hnew : ∀ i : Int, 0 ≤ i → i < ns.length → nd ns i ≠ (t, y, n)) : Nod (ns ++ [(t, y, n)]) := by
  have hp : ns <+: ns ++ [(t, y, n)] := List.prefix_append _ _
  have hlen : ((ns ++ [(t, y, n)]).length : Int) = ns.length + 1 := by simp
  refine ⟨fun i h0 hl => ?_, fun i j h0 hl k0 kl he => ?_⟩
  · by_cases hi : i < ns.length
    · rw [nd_pre hp hi h0]
      obtain ⟨a1, a2, a3, a4, a5, a6, a7, a8, a9⟩ := hN.nod i h0 hi
      rw [top_pre hp (by omega), top_pre hp (by omega)]
      exact ⟨a1, a2, a3, a4, a5, a6, a7, a8, a9⟩
    · have : i = ns.length := by omega
      subst this
      rw [nd_last]
      have hy2 := hy.2
      have hn2 := hn.2
      rw [top_pre hp hy2, top_pre hp hn2]
      exact ⟨ht, ht', hy.1, hy2, hn.1, hn2, hne, h1, h2⟩
  · by_cases hi : i < ns.length
    · by_cases hj : j < ns.length
      · rw [nd_pre hp hi h0, nd_pre hp hj k0] at he
        exact hN.one i j h0 hi k0 hj he
      · have : j = ns.length := by omega
        subst this
        rw [nd_last, nd_pre hp hi h0] at he
        exact absurd he (hnew i h0 hi)
    · have : i = ns.length := by omega
      subst this
      by_cases hj : j < ns.length
      · rw [nd_last, nd_pre hp hj k0] at he
        exact absurd he.symm (hnew j k0 hj)
      · omega
theorem Inv.add {ns : List Nd} {ids : Nd → Option Int} (hI : Inv ns ids) {t y n : Int} (ht : 0 ≤ t) (ht' : t ≤ 1000) (hy : Ok ns y) (hn : Ok ns n) (hne : y ≠ n) (h1 : t < top ns y) (h2 : t < top ns n)
    (hnew : ids (t, y, n) = none) : Inv (ns ++ [(t, y, n)]) (put ids (t, y, n) ns.length) := by
  have hnew' : ∀ i : Int, 0 ≤ i → i < ns.length → nd ns i ≠ (t, y, n) := fun i h0 hl he => by
    rw [(hI.ids _ i).2 ⟨h0, hl, he⟩] at hnew
    cases hnew
  have hp : ns <+: ns ++ [(t, y, n)] := List.prefix_append _ _
  have hlen : ((ns ++ [(t, y, n)]).length : Int) = ns.length + 1 := by simp
  refine ⟨hI.nod.add ht ht' hy hn hne h1 h2 hnew', fun m id => ?_⟩
  simp only [put]
  by_cases hm : m = (t, y, n)
  · subst hm
    simp only [if_true, Option.some.injEq]
    constructor
    · intro h
      subst h
      exact ⟨by omega, by omega, nd_last⟩
    · rintro ⟨a, b, c⟩
      by_cases hid : id < ns.length
      · rw [nd_pre hp hid a] at c
        exact absurd c (hnew' id a hid)
      · omega
  · simp only [if_neg hm]
    rw [hI.ids]
    constructor
    · rintro ⟨a, b, c⟩
      exact ⟨a, by omega, by rw [nd_pre hp b a]; exact c⟩
    · rintro ⟨a, b, c⟩
      by_cases hid : id < ns.length
      · exact ⟨a, hid, by rw [nd_pre hp hid a] at c; exact c⟩
      · have : id = ns.length := by omega
        subst this
        rw [nd_last] at c
        exact absurd c.symm hm
/-- What Node makes. -/
def NodeOk (ns : List Nd) (t y n : Int) : Prop := 0 ≤ t ∧ t ≤ 1000 ∧ Ok ns y ∧ Ok ns n ∧ t < top ns y ∧ t < top ns n
instance (ns : List Nd) (id : Int) : Decidable (Ok ns id) := by unfold Ok; infer_instance
instance (ns : List Nd) (t y n : Int) : Decidable (NodeOk ns t y n) := by unfold NodeOk; infer_instance
def node (ns : List Nd) (ids : Nd → Option Int) (full : Bool) (t y n : Int) : Int × List Nd × (Nd → Option Int) × Bool :=
  if NodeOk ns t y n then
    if y = n then (y, ns, ids, full)
    else match ids (t, y, n) with
      | some id => (id, ns, ids, full)
      | none => if 4000 ≤ ns.length then (-1002, ns, ids, true) else (ns.length, ns ++ [(t, y, n)], put ids (t, y, n) ns.length, full)
  else (-1002, ns, ids, full)
/-- How a store has grown: by at most k nodes; it is full only if there is no room left. -/
structure Grew (ns : List Nd) (ids : Nd → Option Int) (full : Bool) (k : Nat) (ns' : List Nd) (ids' : Nd → Option Int) (full' : Bool) : Prop where
  inv : Inv ns' ids'
  pre : ns <+: ns'
  len : ns'.length ≤ 4000
  room : full' = full ∨ ns'.length = 4000
  most : ns'.length ≤ ns.length + k
theorem Grew.refl {ns : List Nd} {ids : Nd → Option Int} {full : Bool} (hI : Inv ns ids) (hl : ns.length ≤ 4000) (k : Nat) : Grew ns ids full k ns ids full :=
  ⟨hI, List.prefix_refl _, hl, .inl rfl, by omega⟩
theorem Grew.trans {ns ns' ns'' : List Nd} {ids ids' ids'' : Nd → Option Int} {f f' f'' : Bool} {k k' m : Nat} (h : Grew ns ids f k ns' ids' f') (h' : Grew ns' ids' f' k' ns'' ids'' f'') (hm : k + k' ≤ m) :
    Grew ns ids f m ns'' ids'' f'' := by
  refine ⟨h'.inv, h.pre.trans h'.pre, h'.len, ?_, ?_⟩
  · rcases h'.room with e | e
    · rcases h.room with e' | e'
      · exact .inl (e.trans e')
      · have := h'.pre.length_le
        have := h'.len
        exact .inr (by omega)
    · exact .inr e
  · have := h.most
    have := h'.most
    omega
theorem node_ok {ns : List Nd} {ids : Nd → Option Int} {full : Bool} (hI : Inv ns ids) (hl : ns.length ≤ 4000) {t y n : Int} (hO : NodeOk ns t y n) {r : Int} {ns' : List Nd} {ids' : Nd → Option Int} {full' : Bool}
    (he : node ns ids full t y n = (r, ns', ids', full')) : Grew ns ids full 1 ns' ids' full' ∧ (∀ b, Tb ns b → t < b → Tb ns' b) ∧
      ((r = -1002 ∧ ns'.length = 4000 ∧ full' = true) ∨ (full' = full ∧ Ok ns' r ∧ t ≤ top ns' r ∧ ∀ h, ev ns' h r = if h t = true then ev ns h y else ev ns h n)) := by
  obtain ⟨h1, h2, hy, hn, h3, h4⟩ := hO
  rw [node, if_pos ⟨h1, h2, hy, hn, h3, h4⟩] at he
  by_cases hyn : y = n
  · rw [if_pos hyn] at he
    cases he
    subst hyn
    exact ⟨.refl hI hl 1, fun b h _ => h, .inr ⟨rfl, hy, by omega, fun h => by simp⟩⟩
  · rw [if_neg hyn] at he
    cases hid : ids (t, y, n) with
    | some id =>
      rw [hid] at he
      cases he
      obtain ⟨a, b, c⟩ := (hI.ids _ _).1 hid
      refine ⟨.refl hI hl 1, fun b h _ => h, .inr ⟨rfl, ⟨by omega, b⟩, ?_, fun h => ?_⟩⟩
      · simp only [top, if_neg (show ¬ r < 0 by omega), c]; omega
      · rw [ev_node hI.nod a b, c]
    | none =>
      rw [hid] at he
      simp only at he
      by_cases hf : 4000 ≤ ns.length
      · rw [if_pos hf] at he
        cases he
        exact ⟨⟨hI, List.prefix_refl _, hl, .inr (by omega), by omega⟩, fun b h _ => h, .inl ⟨rfl, by omega, rfl⟩⟩
      · rw [if_neg hf] at he
        cases he
        have hp : ns <+: ns ++ [(t, y, n)] := List.prefix_append _ _
        have hI' := hI.add h1 h2 hy hn hyn h3 h4 hid
        have hlen : ((ns ++ [(t, y, n)]).length : Int) = ns.length + 1 := by simp
        refine ⟨⟨hI', hp, by simp; omega, .inl rfl, by simp⟩, fun b hb ht i h0 hl => ?_, .inr ⟨rfl, ⟨by omega, by omega⟩, ?_, fun h => ?_⟩⟩
        · by_cases hi : i < ns.length
          · rw [nd_pre hp hi h0]; exact hb i h0 hi
          · have : i = ns.length := by omega
            subst this
            rw [nd_last]; exact ht
        · simp only [top, if_neg (show ¬ (ns.length : Int) < 0 by omega), nd_last]; omega
        · rw [ev_node hI'.nod (by omega) (by omega), nd_last]
          simp only
          rw [ev_pre hI.nod hI'.nod hp hy, ev_pre hI.nod hI'.nod hp hn]
theorem node_bad {ns : List Nd} {ids : Nd → Option Int} {full : Bool} {t y n : Int} (hO : ¬ NodeOk ns t y n) : node ns ids full t y n = (-1002, ns, ids, full) := by
  rw [node, if_neg hO]
/-! A choice between two diagrams. -/
def mtop (ns : List Nd) (f g h : Int) : Int := min (min (top ns f) (top ns g)) (top ns h)
def Cse (ns : List Nd) (f g h r : Int) : Prop := ∀ v, ev ns v r = if ev ns v f = 1 then ev ns v g else ev ns v h
def Cond (ns : List Nd) (f : Int) : Prop := ∀ v, ev ns v f = 0 ∨ ev ns v f = 1
/-- What a diagram is if a test holds, and if it does not. -/
def sd (ns : List Nd) (x t : Int) : Int × Int := if top ns x = t then ((nd ns x).2.1, (nd ns x).2.2) else (x, x)
theorem sd_ok {ns : List Nd} (hN : Nod ns) {x t : Int} (hx : Ok ns x) (ht : t ≤ 1000) (hl : t ≤ top ns x) :
    Ok ns (sd ns x t).1 ∧ Ok ns (sd ns x t).2 ∧ t < top ns (sd ns x t).1 ∧ t < top ns (sd ns x t).2 ∧ ∀ v, ev ns v x = if v t = true then ev ns v (sd ns x t).1 else ev ns v (sd ns x t).2 := by
  unfold sd
  by_cases he : top ns x = t
  · rw [if_pos he]
    have h0 : ¬ x < 0 := fun hn => by simp only [top, if_pos hn] at he; omega
    have hx2 := hx.2
    obtain ⟨_, _, a, b, c, d, _, e, g⟩ := hN.nod x (by omega) hx.2
    have ht' : (nd ns x).1 = t := by simp only [top, if_neg h0] at he; exact he
    refine ⟨⟨a, by omega⟩, ⟨c, by omega⟩, by rw [← ht']; exact e, by rw [← ht']; exact g, fun v => ?_⟩
    rw [ev_node hN (by omega) hx.2, ht']
  · rw [if_neg he]
    refine ⟨hx, hx, by show t < top ns x; omega, by show t < top ns x; omega, fun v => by simp⟩
/-- What is known of choices. -/
def Kn (ns : List Nd) (m : Nd → Option Int) : Prop := ∀ f g h id, m (f, g, h) = some id → (id = -1002 ∧ ns.length = 4000) ∨ (Ok ns f ∧ Ok ns g ∧ Ok ns h ∧ Ok ns id ∧ Cse ns f g h id ∧ mtop ns f g h ≤ top ns id)
theorem Kn.nil (ns : List Nd) : Kn ns fun _ => none := fun _ _ _ _ h => by cases h
theorem mt_pre {ns ns' : List Nd} (hp : ns <+: ns') {f g h : Int} (hf : Ok ns f) (hg : Ok ns g) (hh : Ok ns h) : mtop ns' f g h = mtop ns f g h := by
  unfold mtop; rw [top_pre hp hf.2, top_pre hp hg.2, top_pre hp hh.2]
theorem Cse.pre {ns ns' : List Nd} (hN : Nod ns) (hN' : Nod ns') (hp : ns <+: ns') {f g h r : Int} (hf : Ok ns f) (hg : Ok ns g) (hh : Ok ns h) (hr : Ok ns r) (hs : Cse ns f g h r) : Cse ns' f g h r := fun v => by
  rw [ev_pre hN hN' hp hf, ev_pre hN hN' hp hg, ev_pre hN hN' hp hh, ev_pre hN hN' hp hr]; exact hs v
theorem Kn.pre {ns ns' : List Nd} (hN : Nod ns) (hN' : Nod ns') (hp : ns <+: ns') (hl : ns'.length ≤ 4000) {m : Nd → Option Int} (hK : Kn ns m) : Kn ns' m := fun f g h id hm => by
  rcases hK f g h id hm with ⟨h1, h2⟩ | ⟨h1, h2, h3, h4, h5, h6⟩
  · have := hp.length_le
    exact .inl ⟨h1, by omega⟩
  · exact .inr ⟨h1.pre hp, h2.pre hp, h3.pre hp, h4.pre hp, h5.pre hN hN' hp h1 h2 h3 h4, by rw [mt_pre hp h1 h2 h3, top_pre hp h4.2]; exact h6⟩
theorem Kn.put {ns : List Nd} {m : Nd → Option Int} (hK : Kn ns m) {f g h r : Int} (hr : (r = -1002 ∧ ns.length = 4000) ∨ (Ok ns f ∧ Ok ns g ∧ Ok ns h ∧ Ok ns r ∧ Cse ns f g h r ∧ mtop ns f g h ≤ top ns r)) : Kn ns (put m (f, g, h) r) := fun f' g' h' id hm => by
  unfold Fl.put at hm
  split at hm
  · rename_i he
    cases hm
    simp only [Prod.mk.injEq] at he
    obtain ⟨rfl, rfl, rfl⟩ := he
    exact hr
  · exact hK f' g' h' id hm
/-- What a choice leaves. -/
structure Cho (ns : List Nd) (ids : Nd → Option Int) (full : Bool) (f g h : Int) (r : Int) (ns' : List Nd) (ids' : Nd → Option Int) (full' : Bool) : Prop where
  grew : Grew ns ids full 4000 ns' ids' full'
  few : ∀ b, Tb ns b → Tb ns' b ∧ ns'.length + 1 ≤ ns.length + 2 ^ (b - mtop ns f g h).toNat
  res : (r = -1002 ∧ ns'.length = 4000) ∨ (Ok ns' r ∧ Cse ns' f g h r ∧ mtop ns f g h ≤ top ns' r)
end Go.Dg
