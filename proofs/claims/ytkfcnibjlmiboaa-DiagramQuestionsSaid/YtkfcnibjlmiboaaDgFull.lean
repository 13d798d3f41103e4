/- A store takes as many nodes as the limit says, and is full from the next one on. Conditions: none. -/
import Derived.Test.YtkfcnibjlmiboaaDgAwake
namespace Go.Dg5
open Go.Fl Go.Fx Go.Dg

theorem mod_ok {x n : Int} {K : Int → Prop} (hn : 0 < n) (hb : n ≤ 4294967296) (h : ∀ k, 0 ≤ k → k < n → K k) : P_Mod x n K := by
  unfold P_Mod
  have h1 := Int.tmod_lt_of_pos x hn
  have h2 := Int.lt_tmod_of_pos x hn
  refine ⟨by omega, fun hneg => ⟨⟨by omega, by omega⟩, h _ (by omega) (by omega)⟩, fun hneg => h _ (by omega) h1⟩
theorem pFull_ok {ns : List Nd} {ids : Nd → Option Int} {full : Bool} {K : Bool → List Nd → (Nd → Option Int) → Bool → Prop} (h : K full ns ids full) : P_pFull ns ids full K := h
theorem ChR.op {ns : List Nd} {ids : Nd → Option Int} {full : Bool} {f g h r : Int} {ns' : List Nd} {ids' : Nd → Option Int} {full' : Bool} (C : ChR ns ids full f g h r ns' ids' full') :
    OpR (Ok ns f ∧ Cond ns f ∧ Ok ns g ∧ Ok ns h) ns ids full f g h r ns' ids' full' := by
  rcases C with ⟨a, b, c, d, C⟩ | C
  · exact .inl ⟨⟨a, b, c, d⟩, C⟩
  · exact .inr C
/-- The nodes that have come: their tests and leaves. -/
def Cam (ns : List Nd) (t l : Int) : Prop := ∀ i : Int, 0 ≤ i → i < ns.length → ∃ t' l' : Int, nd ns i = (t', -1 - l', -1) ∧ 1 ≤ l' ∧ l' ≤ 7 ∧ 7 * (1000 - t') < 4000 ∧ (t < t' ∨ (t = t' ∧ l' < l))
theorem node_new {ns : List Nd} {ids : Nd → Option Int} {full : Bool} {t y n : Int} (hO : NodeOk ns t y n) (hne : y ≠ n) (hid : ids (t, y, n) = none) (hl : ns.length < 4000) :
    node ns ids full t y n = ((ns.length : Int), ns ++ [(t, y, n)], put ids (t, y, n) ns.length, full) := by
  rw [node, if_pos hO, if_neg hne, hid]
  simp only
  rw [if_neg (by omega)]
theorem node_full {ns : List Nd} {ids : Nd → Option Int} {full : Bool} {t y n : Int} (hO : NodeOk ns t y n) (hne : y ≠ n) (hid : ids (t, y, n) = none) (hl : ns.length = 4000) : node ns ids full t y n = (-1002, ns, ids, true) := by
  rw [node, if_pos hO, if_neg hne, hid]
  simp only
  rw [if_pos (by omega)]
theorem node_old {ns : List Nd} {ids : Nd → Option Int} {full : Bool} {t y n id : Int} (hO : NodeOk ns t y n) (hne : y ≠ n) (hid : ids (t, y, n) = some id) : node ns ids full t y n = (id, ns, ids, full) := by
  rw [node, if_pos hO, if_neg hne, hid]
theorem top_neg {ns : List Nd} {x : Int} (h : x < 0) : top ns x = 1001 := by simp only [top, if_pos h]
theorem leafs_ok {ns : List Nd} {t y : Int} (h0 : 0 ≤ t) (h1 : t ≤ 1000) (hy : -1002 < y) (hy' : y < 0) : NodeOk ns t y (-1) :=
  ⟨h0, h1, ⟨hy, by omega⟩, ⟨by omega, by omega⟩, by rw [top_neg hy']; omega, by rw [top_neg (by omega)]; omega⟩
def Tail (more : Int) (ns : List Nd) (ids : Nd → Option Int) (full : Bool) (K : Bool → Prop) : Prop :=
  P_Mod more (4 : Int) fun x3_0 =>
    P_pFull ns ids full fun x4_0 x4_1 Y4_2 x4_3 =>
      Cnd (x4_0 = true) (K false)
        (P_pNode x4_1 Y4_2 x4_3 (1000 : Int) (-2 : Int) (-1 : Int) fun x5_0 x5_1 Y5_2 x5_3 =>
          Cnd (x5_0 = (0 : Int))
            (Lp4
              (fun x6_0 x6_1 x6_2 Y6_3 Y6_4 =>
                Cnd (x6_0 < x3_0)
                  (InI ((-900 : Int) - x6_0) ∧
                    P_pNode x6_1 Y6_3 x6_2 (0 : Int) ((-900 : Int) - x6_0) (-1 : Int)
                      fun x7_0 x7_1 Y7_2 x7_3 =>
                      Cnd (x7_0 = (-1002 : Int))
                        (P_pFull x7_1 Y7_2 x7_3 fun x8_0 x8_1 Y8_2 x8_3 =>
                          Cnd (x8_0 = true)
                            (InI (x6_0 + (1 : Int)) ∧ Y6_4 (x6_0 + (1 : Int)) x8_1 x8_3 Y8_2)
                            (K false))
                        (K false))
                  (P_pFull x6_1 Y6_3 x6_2 fun x7_0 x7_1 Y7_2 x7_3 =>
                    Cnd (x7_0 = decide ((0 : Int) < x3_0))
                      (P_pRun x7_1 Y7_2 x7_3 (0 : Int) [] fun x8_0 _ _ _ =>
                        K (decide (x8_0 = (0 : Int))))
                      (K false)))
              (0 : Int) x5_1 x5_3 Y5_2)
            (K false))
theorem tail_ok {more : Int} {ns : List Nd} {ids : Nd → Option Int} {K : Bool → Prop} {t l : Int} (hI : Inv ns ids) (hl : ns.length = 4000) (hc : Cam ns t l) (h0 : nd ns 0 = (1000, -2, -1)) (h : K true) : Tail more ns ids false K := by
  unfold Tail
  refine mod_ok (by omega) (by omega) fun k hk hk4 => pFull_ok (Cnd.no (by simp) (pNode_ok (by omega) ?_))
  have i0 : ids (1000, -2, -1) = some 0 := (hI.ids _ _).2 ⟨by omega, by omega, h0⟩
  rw [node_old (leafs_ok (by omega) (by omega) (by omega) (by omega)) (by omega) i0]
  refine Cnd.yes rfl ?_
  refine Lp4.ind (fun (i : Int) (ns' : List Nd) (f : Bool) (ids' : Nd → Option Int) => 0 ≤ i ∧ i ≤ k ∧ ns' = ns ∧ ids' = ids ∧ f = decide (0 < i)) (fun (i : Int) _ _ _ => (k - i).toNat) (fun i ns' f ids' hI' => ?_) ⟨by omega, by omega, rfl, rfl, rfl⟩
  obtain ⟨h1, h2, rfl, rfl, rfl⟩ := hI'
  refine ⟨fun hlt => ⟨⟨by omega, by omega⟩, pNode_ok (by omega) ?_⟩, fun hlt => ?_⟩
  · have hn : ids' (0, -900 - i, -1) = none := by
      cases hid : ids' (0, -900 - i, -1) with
      | none => rfl
      | some q =>
        obtain ⟨a, b, c⟩ := (hI.ids _ _).1 hid
        obtain ⟨t', l', e, _, _, e2, _⟩ := hc q a b
        rw [e] at c
        simp only [Prod.mk.injEq] at c
        omega
    rw [node_full (leafs_ok (by omega) (by omega) (by omega) (by omega)) (by omega) hn hl]
    refine Cnd.yes rfl (pFull_ok (Cnd.yes rfl ⟨⟨by omega, by omega⟩, ⟨by omega, by omega, rfl, rfl, (decide_eq_true (by omega)).symm⟩, by omega⟩))
  · have : i = k := by omega
    subst this
    refine pFull_ok (Cnd.yes rfl (pRun_ok hI.nod ?_))
    rw [if_pos ⟨by omega, by omega⟩, ev_node hI.nod (by omega) (by omega), h0]
    have : hold [] (1000 : Int) = false := by decide
    simp only [this, Bool.false_eq_true, if_false]
    rw [ev_leaf (by omega)]
    exact h
theorem full_ok {more : Int} {K : Bool → Prop} (h : K true) : P_lFull more K := by
  unfold P_lFull
  refine awake_ok (Cnd.yes rfl ?_)
  unfold P_pNew
  refine Lp5.ind (fun (n t : Int) (ns : List Nd) (full : Bool) (ids : Nd → Option Int) => Inv ns ids ∧ full = false ∧ n = ns.length ∧ n ≤ 4000 ∧ Cam ns t 1 ∧ (0 < n → nd ns 0 = (1000, -2, -1)) ∧ -1 ≤ t ∧ t ≤ 1000 ∧ (n = 7 * (1000 - t) ∨ n = 4000)) (fun (_ t : Int) _ _ _ => (t + 1).toNat) (fun n t ns full ids hO => ?_)
    ⟨inv_nil, rfl, rfl, by omega, fun i a b => by simp at b; omega, fun a => by omega, by omega, by omega, .inl (by omega)⟩
  obtain ⟨hI, rfl, hn, hle, hc, h0, ht, ht', hd⟩ := hO
  have done : n = 4000 → Tail more ns ids false K := fun e => tail_ok hI (by omega) hc (h0 (by omega)) h
  refine ⟨fun hpos => ⟨fun hlt => ?_, fun hlt => done (by omega)⟩, fun hneg => done (by omega)⟩
  refine Lp5.ind (fun (n l : Int) (ns : List Nd) (full : Bool) (ids : Nd → Option Int) => Inv ns ids ∧ full = false ∧ n = ns.length ∧ n ≤ 4000 ∧ Cam ns t l ∧ (0 < n → nd ns 0 = (1000, -2, -1)) ∧ 1 ≤ l ∧ l ≤ 8 ∧ n = 7 * (1000 - t) + (l - 1)) (fun (_ l : Int) _ _ _ => (8 - l).toNat) (fun n l ns full ids hO => ?_)
    ⟨hI, rfl, hn, hle, hc, h0, by omega, by omega, by omega⟩
  clear done hI hn hle hc h0 hd hlt
  obtain ⟨hI, rfl, hn, hle, hc, h0, hl1, hl8, hd⟩ := hO
  have next : (l = 8 ∨ n = 4000) → (Inv ns ids ∧ false = false ∧ n = ns.length ∧ n ≤ 4000 ∧ Cam ns (t - 1) 1 ∧ (0 < n → nd ns 0 = (1000, -2, -1)) ∧ -1 ≤ t - 1 ∧ t - 1 ≤ 1000 ∧ (n = 7 * (1000 - (t - 1)) ∨ n = 4000)) ∧ (t - 1 + 1).toNat < (t + 1).toNat := fun e => by
    refine ⟨⟨hI, rfl, hn, hle, fun i a b => ?_, h0, by omega, by omega, by omega⟩, by omega⟩
    obtain ⟨t', l', e1, e2, e3, e4, e5⟩ := hc i a b
    exact ⟨t', l', e1, e2, e3, e4, by omega⟩
  refine ⟨fun hlt => ⟨fun hlt' => ⟨⟨by omega, by omega⟩, pNode_ok (by omega) ?_⟩, fun hlt' => ⟨⟨by omega, by omega⟩, next (by omega)⟩⟩, fun hlt => ⟨⟨by omega, by omega⟩, next (by omega)⟩⟩
  have hO : NodeOk ns t (-1 - l) (-1) := leafs_ok (by omega) (by omega) (by omega) (by omega)
  have hid : ids (t, -1 - l, -1) = none := by
    cases hid : ids (t, -1 - l, -1) with
    | none => rfl
    | some q =>
      obtain ⟨a, b, c⟩ := (hI.ids _ _).1 hid
      obtain ⟨t', l', e, _, _, _, e2⟩ := hc q a b
      rw [e] at c
      simp only [Prod.mk.injEq] at c
      omega
  rw [node_new hO (by omega) hid (by omega)]
  dsimp only
  have hI' := hI.add hO.1 hO.2.1 hO.2.2.1 hO.2.2.2.1 (show -1 - l ≠ -1 by omega) hO.2.2.2.2.1 hO.2.2.2.2.2 hid
  have hp : ns <+: ns ++ [(t, -1 - l, -1)] := List.prefix_append _ _
  have hlen : ((ns ++ [(t, -1 - l, -1)]).length : Int) = ns.length + 1 := by simp
  refine Cnd.yes hn.symm ⟨⟨by omega, by omega⟩, ⟨by omega, by omega⟩, ⟨hI', rfl, by omega, by omega, fun i a b => ?_, fun _ => ?_, by omega, by omega, by omega⟩, by omega⟩
  · by_cases hi : i < ns.length
    · obtain ⟨t', l', e1, e2, e3, e4, e5⟩ := hc i a hi
      exact ⟨t', l', by rw [nd_pre hp hi a]; exact e1, e2, e3, e4, by omega⟩
    · have : i = ns.length := by omega
      subst this
      exact ⟨t, l, nd_last, by omega, by omega, by omega, .inr ⟨rfl, by omega⟩⟩
  · by_cases hz : 0 < n
    · rw [nd_pre hp (by omega) (by omega)]; exact h0 hz
    · have hz : ns = [] := List.eq_nil_of_length_eq_zero (by omega)
      subst hz
      have e1 : t = 1000 := by simp at hn; omega
      have e2 : l = 1 := by simp at hn; omega
      subst e1 e2
      rfl
end Go.Dg5
