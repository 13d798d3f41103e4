/- Choices, their parts, runs and sizes, for the document's store and for the program's. Conditions: those in the statements. -/
import Derived.Test.YtkfcnibjlmiboaaDgFun
namespace Go.Dg5
open Go.Fl Go.Fx Go.Dg

/-- What a choice gives, or that it gives none. -/
def OpR (p : Prop) (ns : List Nd) (ids : Nd → Option Int) (full : Bool) (f g h r : Int) (ns' : List Nd) (ids' : Nd → Option Int) (full' : Bool) : Prop :=
  (p ∧ Cho ns ids full f g h r ns' ids' full') ∨ (¬ p ∧ r = -1002 ∧ ns' = ns ∧ ids' = ids ∧ full' = full)
def ChR (ns : List Nd) (ids : Nd → Option Int) (full : Bool) (f g h r : Int) (ns' : List Nd) (ids' : Nd → Option Int) (full' : Bool) : Prop :=
  (Ok ns f ∧ Cond ns f ∧ Ok ns g ∧ Ok ns h ∧ Cho ns ids full f g h r ns' ids' full') ∨ (¬ (Ok ns f ∧ Cond ns f ∧ Ok ns g ∧ Ok ns h) ∧ r = -1002 ∧ ns' = ns ∧ ids' = ids ∧ full' = full)
/-- The truth values of a list. -/
def hold (hs : List Bool) (t : Int) : Bool := decide (0 ≤ t) && decide (t < hs.length) && hs.getD t.toNat false

theorem rcond_ok {ns : List Nd} {ids : Nd → Option Int} {full : Bool} {id : Int} {K : Bool → List Nd → (Nd → Option Int) → Bool → Prop} (hN : Nod ns) (hl : ns.length ≤ 4000) (h : ∀ b, (b = true ↔ Ok ns id ∧ Cond ns id) → K b ns ids full) : P_rcond ns ids full id K := by
  unfold P_rcond
  by_cases hid : Ok ns id
  · refine ris_ok (Cnd.yes (decide_eq_true hid) (rLeaves_ok hN hl fun l hL => ?_))
    have hc := cond_iff hN hid hL
    refine Lp1.ind (fun i : Int => 0 ≤ i ∧ i ≤ l.length ∧ ∀ j : Nat, j < i.toNat → ∀ n, l[j]? = some n → n ≤ 1) (fun i : Int => l.length - i.toNat) (fun i hi hlen => ?_) ⟨by omega, by omega, fun j hj => by omega⟩
    obtain ⟨h0, h1, h2⟩ := hi
    refine ⟨fun hlt => ⟨⟨h0, hlt⟩, fun y hy => ⟨fun h3 => h false ⟨fun e => (by cases e), fun a => ?_⟩, fun h3 => ⟨⟨by omega, by omega⟩, ⟨by omega, by omega, fun j hj n hn => ?_⟩, by omega⟩⟩⟩, fun hlt => h true ⟨fun _ => ⟨hid, hc.2 fun n hn => ?_⟩, fun _ => rfl⟩⟩
    · have := hc.1 a.2 y (List.mem_of_getElem? hy); omega
    · by_cases hji : j = i.toNat
      · subst hji; rw [hy] at hn; cases hn; omega
      · exact h2 j (by omega) n hn
    · obtain ⟨j, hj⟩ := List.mem_iff_getElem?.1 hn
      exact h2 j (by have := (List.getElem?_eq_some_iff.1 hj).1; omega) n hj
  · exact ris_ok (Cnd.no (by simpa using hid) (h false ⟨fun e => (by cases e), fun a => absurd a.1 hid⟩))
theorem rChoose_ok {ns : List Nd} {ids : Nd → Option Int} {full : Bool} {f g h : Int} {K : Int → List Nd → (Nd → Option Int) → Bool → Prop} (hI : Inv ns ids) (hl : ns.length ≤ 4000)
    (hK : ∀ r ns' ids' full', ChR ns ids full f g h r ns' ids' full' → K r ns' ids' full') : P_rChoose ns ids full f g h K := by
  unfold P_rChoose
  refine rcond_ok hI.nod hl fun b hb => ⟨fun hbt => ?_, fun hbt => ?_⟩
  · obtain ⟨hf, hc⟩ := hb.1 hbt
    refine ris_ok ⟨fun hg => ris_ok ⟨fun hh => ?_, fun hh => ?_⟩, fun hg => ?_⟩
    · exact rchoose_ok _ _ _ _ _ _ _ _ hI hl hf (of_decide_eq_true hg) (of_decide_eq_true hh) hc (Kn.nil ns) fun r ns' ids' full' m' C _ => hK _ _ _ _ (.inl ⟨hf, hc, of_decide_eq_true hg, of_decide_eq_true hh, C⟩)
    · exact hK _ _ _ _ (.inr ⟨fun a => hh (decide_eq_true a.2.2.2), rfl, rfl, rfl, rfl⟩)
    · exact hK _ _ _ _ (.inr ⟨fun a => hg (decide_eq_true a.2.2.1), rfl, rfl, rfl, rfl⟩)
  · exact hK _ _ _ _ (.inr ⟨fun a => hbt (hb.2 ⟨a.1, a.2.1⟩), rfl, rfl, rfl, rfl⟩)
theorem rLeaf_ok {ns : List Nd} {ids : Nd → Option Int} {full : Bool} {n : Int} {K : Int → List Nd → (Nd → Option Int) → Bool → Prop} (h : K (if 0 ≤ n ∧ n ≤ 1000 then -1 - n else -1002) ns ids full) : P_rLeaf ns ids full n K := by
  unfold P_rLeaf
  refine ⟨fun h1 => ?_, fun h1 => ⟨fun h2 => ?_, fun h2 => ⟨⟨by omega, by omega⟩, ?_⟩⟩⟩
  · rw [if_neg (by omega)] at h; exact h
  · rw [if_neg (by omega)] at h; exact h
  · rw [if_pos (by omega)] at h; exact h
theorem rAnd_ok {ns : List Nd} {ids : Nd → Option Int} {full : Bool} {f g : Int} {K : Int → List Nd → (Nd → Option Int) → Bool → Prop} (hI : Inv ns ids) (hl : ns.length ≤ 4000)
    (hK : ∀ r ns' ids' full', OpR (Ok ns f ∧ Cond ns f ∧ Ok ns g ∧ Cond ns g) ns ids full f g (-1) r ns' ids' full' → K r ns' ids' full') : P_rAnd ns ids full f g K := by
  unfold P_rAnd
  refine rcond_ok hI.nod hl fun b hb => ⟨fun hbt => ?_, fun hbt => ?_⟩
  · refine rChoose_ok hI hl fun r ns' ids' full' C => hK _ _ _ _ ?_
    rcases C with ⟨a1, a2, a3, a4, a5⟩ | ⟨a1, a2⟩
    · exact .inl ⟨⟨a1, a2, hb.1 hbt⟩, a5⟩
    · exact .inr ⟨fun a => a1 ⟨a.1, a.2.1, a.2.2.1, ⟨by omega, by omega⟩⟩, a2⟩
  · exact hK _ _ _ _ (.inr ⟨fun a => hbt (hb.2 a.2.2), rfl, rfl, rfl, rfl⟩)
theorem rOr_ok {ns : List Nd} {ids : Nd → Option Int} {full : Bool} {f g : Int} {K : Int → List Nd → (Nd → Option Int) → Bool → Prop} (hI : Inv ns ids) (hl : ns.length ≤ 4000)
    (hK : ∀ r ns' ids' full', OpR (Ok ns f ∧ Cond ns f ∧ Ok ns g ∧ Cond ns g) ns ids full f (-2) g r ns' ids' full' → K r ns' ids' full') : P_rOr ns ids full f g K := by
  unfold P_rOr
  refine rcond_ok hI.nod hl fun b hb => ⟨fun hbt => ?_, fun hbt => ?_⟩
  · refine rChoose_ok hI hl fun r ns' ids' full' C => hK _ _ _ _ ?_
    rcases C with ⟨a1, a2, a3, a4, a5⟩ | ⟨a1, a2⟩
    · exact .inl ⟨⟨a1, a2, hb.1 hbt⟩, a5⟩
    · exact .inr ⟨fun a => a1 ⟨a.1, a.2.1, ⟨by omega, by omega⟩, a.2.2.1⟩, a2⟩
  · exact hK _ _ _ _ (.inr ⟨fun a => hbt (hb.2 a.2.2), rfl, rfl, rfl, rfl⟩)
theorem rNot_ok {ns : List Nd} {ids : Nd → Option Int} {full : Bool} {f : Int} {K : Int → List Nd → (Nd → Option Int) → Bool → Prop} (hI : Inv ns ids) (hl : ns.length ≤ 4000)
    (hK : ∀ r ns' ids' full', OpR (Ok ns f ∧ Cond ns f) ns ids full f (-1) (-2) r ns' ids' full' → K r ns' ids' full') : P_rNot ns ids full f K := by
  unfold P_rNot
  refine rChoose_ok hI hl fun r ns' ids' full' C => hK _ _ _ _ ?_
  rcases C with ⟨a1, a2, a3, a4, a5⟩ | ⟨a1, a2⟩
  · exact .inl ⟨⟨a1, a2⟩, a5⟩
  · exact .inr ⟨fun a => a1 ⟨a.1, a.2, ⟨by omega, by omega⟩, ⟨by omega, by omega⟩⟩, a2⟩
theorem rRun_ok {ns : List Nd} {ids : Nd → Option Int} {full : Bool} {id : Int} {hs : List Bool} {K : Int → List Nd → (Nd → Option Int) → Bool → Prop} (hN : Nod ns) (h : K (if Ok ns id then ev ns (hold hs) id else -1) ns ids full) : P_rRun ns ids full id hs K := by
  unfold P_rRun
  by_cases hid : Ok ns id
  · rw [if_pos hid] at h
    refine ris_ok (Cnd.yes (decide_eq_true hid) ?_)
    refine Lp1.ind (fun x => Ok ns x ∧ ev ns (hold hs) x = ev ns (hold hs) id) (fun x => (x + 1).toNat) (fun x hx => ?_) ⟨hid, rfl⟩
    obtain ⟨hx, he⟩ := hx
    refine ⟨fun h0 => ⟨⟨h0, hx.2⟩, fun y hy _ => ?_⟩, fun h0 => ?_⟩
    · have h0 : 0 ≤ x := h0
      have ey := nd_get hy
      obtain ⟨k1, k2, k3, k4⟩ := kids hN hx h0
      obtain ⟨t0, _⟩ := hN.nod x h0 hx.2
      rw [ev_node hN h0 hx.2] at he
      rw [ey] at k1 k2 k3 k4 he t0
      refine ⟨fun hlt => ⟨⟨t0, hlt⟩, fun b hb => ?_⟩, fun hlt => ?_⟩
      · have hb' : hold hs y.1 = b := by
          unfold hold
          rw [decide_eq_true t0, decide_eq_true hlt, List.getD_eq_getElem?_getD, hb]
          rfl
        rw [hb'] at he
        refine ⟨fun e => ?_, fun e => ?_⟩
        · rw [if_pos e] at he; exact ⟨⟨k1, he⟩, by omega⟩
        · rw [if_neg e] at he; exact ⟨⟨k2, he⟩, by omega⟩
      · have hb' : hold hs y.1 = false := by simp [hold, hlt]
        rw [hb'] at he
        exact ⟨⟨k2, he⟩, by omega⟩
    · have hn : x < 0 := by omega
      rw [ev_leaf hn] at he
      refine ⟨by have := hx.1; constructor <;> omega, ?_⟩
      rw [he]; exact h
  · rw [if_neg hid] at h
    exact ris_ok (Cnd.no (by simpa using hid) h)

theorem pcond_ok {ns : List Nd} {ids : Nd → Option Int} {full : Bool} {id : Int} {K : Bool → List Nd → (Nd → Option Int) → Bool → Prop} (hN : Nod ns) (hl : ns.length ≤ 4000) (h : ∀ b, (b = true ↔ Ok ns id ∧ Cond ns id) → K b ns ids full) : P_pcond ns ids full id K := by
  unfold P_pcond
  by_cases hid : Ok ns id
  · refine pvalid_ok (Cnd.yes (decide_eq_true hid) (pLeaves_ok hN hl fun l hL => ?_))
    have hc := cond_iff hN hid hL
    intro hlen
    refine Lp1.ind (fun i : Int => 0 ≤ i ∧ i ≤ l.length ∧ ∀ j : Nat, j < i.toNat → ∀ n, l[j]? = some n → n ≤ 1) (fun i : Int => l.length - i.toNat) (fun i hi => ?_) ⟨by omega, by omega, fun j hj => by omega⟩
    obtain ⟨h0, h1, h2⟩ := hi
    refine ⟨fun hlt => ⟨⟨h0, hlt⟩, fun y hy => ⟨fun h3 => ?_, fun h3 => ⟨⟨by omega, by omega⟩, ⟨by omega, by omega, fun j hj n hn => ?_⟩, by omega⟩⟩⟩, fun hlt => h true ⟨fun _ => ⟨hid, hc.2 fun n hn => ?_⟩, fun _ => rfl⟩⟩
    · rw [show decide (0 ≤ i) = true from decide_eq_true h0]
      exact h false ⟨fun e => (by cases e), fun a => by have := hc.1 a.2 y (List.mem_of_getElem? hy); omega⟩
    · by_cases hji : j = i.toNat
      · subst hji; rw [hy] at hn; cases hn; omega
      · exact h2 j (by omega) n hn
    · obtain ⟨j, hj⟩ := List.mem_iff_getElem?.1 hn
      exact h2 j (by have := (List.getElem?_eq_some_iff.1 hj).1; omega) n hj
  · exact pvalid_ok (Cnd.no (by simpa using hid) (h false ⟨fun e => (by cases e), fun a => absurd a.1 hid⟩))
theorem pChoose_ok {ns : List Nd} {ids : Nd → Option Int} {full : Bool} {f g h : Int} {K : Int → List Nd → (Nd → Option Int) → Bool → Prop} (hI : Inv ns ids) (hl : ns.length ≤ 4000)
    (hK : ∀ r ns' ids' full', ChR ns ids full f g h r ns' ids' full' → K r ns' ids' full') : P_pChoose ns ids full f g h K := by
  unfold P_pChoose
  refine pcond_ok hI.nod hl fun b hb => ⟨fun hbt => ?_, fun hbt => ?_⟩
  · obtain ⟨hf, hc⟩ := hb.1 hbt
    refine pvalid_ok ⟨fun hg => pvalid_ok ⟨fun hh => ?_, fun hh => ?_⟩, fun hg => ?_⟩
    · exact pchoose_ok _ _ _ _ _ _ _ _ hI hl hf (of_decide_eq_true hg) (of_decide_eq_true hh) hc (Kn.nil ns) fun r ns' ids' full' m' C _ => hK _ _ _ _ (.inl ⟨hf, hc, of_decide_eq_true hg, of_decide_eq_true hh, C⟩)
    · exact hK _ _ _ _ (.inr ⟨fun a => hh (decide_eq_true a.2.2.2), rfl, rfl, rfl, rfl⟩)
    · exact hK _ _ _ _ (.inr ⟨fun a => hg (decide_eq_true a.2.2.1), rfl, rfl, rfl, rfl⟩)
  · exact hK _ _ _ _ (.inr ⟨fun a => hbt (hb.2 ⟨a.1, a.2.1⟩), rfl, rfl, rfl, rfl⟩)
theorem pLeaf_ok {ns : List Nd} {ids : Nd → Option Int} {full : Bool} {n : Int} {K : Int → List Nd → (Nd → Option Int) → Bool → Prop} (h : K (if 0 ≤ n ∧ n ≤ 1000 then -1 - n else -1002) ns ids full) : P_pLeaf ns ids full n K := by
  unfold P_pLeaf
  refine ⟨fun h1 => ?_, fun h1 => ⟨fun h2 => ?_, fun h2 => ⟨⟨by omega, by omega⟩, ?_⟩⟩⟩
  · rw [if_neg (by omega)] at h; exact h
  · rw [if_neg (by omega)] at h; exact h
  · rw [if_pos (by omega)] at h; exact h
theorem pAnd_ok {ns : List Nd} {ids : Nd → Option Int} {full : Bool} {f g : Int} {K : Int → List Nd → (Nd → Option Int) → Bool → Prop} (hI : Inv ns ids) (hl : ns.length ≤ 4000)
    (hK : ∀ r ns' ids' full', OpR (Ok ns f ∧ Cond ns f ∧ Ok ns g ∧ Cond ns g) ns ids full f g (-1) r ns' ids' full' → K r ns' ids' full') : P_pAnd ns ids full f g K := by
  unfold P_pAnd
  refine pcond_ok hI.nod hl fun b hb => ⟨fun hbt => ?_, fun hbt => ?_⟩
  · refine pLeaf_ok (pChoose_ok hI hl fun r ns' ids' full' C => hK _ _ _ _ ?_)
    rcases C with ⟨a1, a2, a3, a4, a5⟩ | ⟨a1, a2⟩
    · exact .inl ⟨⟨a1, a2, hb.1 hbt⟩, a5⟩
    · exact .inr ⟨fun a => a1 ⟨a.1, a.2.1, a.2.2.1, ⟨by omega, by omega⟩⟩, a2⟩
  · exact hK _ _ _ _ (.inr ⟨fun a => hbt (hb.2 a.2.2), rfl, rfl, rfl, rfl⟩)
theorem pOr_ok {ns : List Nd} {ids : Nd → Option Int} {full : Bool} {f g : Int} {K : Int → List Nd → (Nd → Option Int) → Bool → Prop} (hI : Inv ns ids) (hl : ns.length ≤ 4000)
    (hK : ∀ r ns' ids' full', OpR (Ok ns f ∧ Cond ns f ∧ Ok ns g ∧ Cond ns g) ns ids full f (-2) g r ns' ids' full' → K r ns' ids' full') : P_pOr ns ids full f g K := by
  unfold P_pOr
  refine pcond_ok hI.nod hl fun b hb => ⟨fun hbt => ?_, fun hbt => ?_⟩
  · refine pLeaf_ok (pChoose_ok hI hl fun r ns' ids' full' C => hK _ _ _ _ ?_)
    rcases C with ⟨a1, a2, a3, a4, a5⟩ | ⟨a1, a2⟩
    · exact .inl ⟨⟨a1, a2, hb.1 hbt⟩, a5⟩
    · exact .inr ⟨fun a => a1 ⟨a.1, a.2.1, ⟨by omega, by omega⟩, a.2.2.1⟩, a2⟩
  · exact hK _ _ _ _ (.inr ⟨fun a => hbt (hb.2 a.2.2), rfl, rfl, rfl, rfl⟩)
theorem pNot_ok {ns : List Nd} {ids : Nd → Option Int} {full : Bool} {f : Int} {K : Int → List Nd → (Nd → Option Int) → Bool → Prop} (hI : Inv ns ids) (hl : ns.length ≤ 4000)
    (hK : ∀ r ns' ids' full', OpR (Ok ns f ∧ Cond ns f) ns ids full f (-1) (-2) r ns' ids' full' → K r ns' ids' full') : P_pNot ns ids full f K := by
  unfold P_pNot
  refine pLeaf_ok (pLeaf_ok (pChoose_ok hI hl fun r ns' ids' full' C => hK _ _ _ _ ?_))
  rcases C with ⟨a1, a2, a3, a4, a5⟩ | ⟨a1, a2⟩
  · exact .inl ⟨⟨a1, a2⟩, a5⟩
  · exact .inr ⟨fun a => a1 ⟨a.1, a.2, ⟨by omega, by omega⟩, ⟨by omega, by omega⟩⟩, a2⟩
theorem pRun_ok {ns : List Nd} {ids : Nd → Option Int} {full : Bool} {id : Int} {hs : List Bool} {K : Int → List Nd → (Nd → Option Int) → Bool → Prop} (hN : Nod ns) (h : K (if Ok ns id then ev ns (hold hs) id else -1) ns ids full) : P_pRun ns ids full id hs K := by
  unfold P_pRun
  by_cases hid : Ok ns id
  · rw [if_pos hid] at h
    refine pvalid_ok (Cnd.yes (decide_eq_true hid) ?_)
    refine Lp1.ind (fun x => Ok ns x ∧ ev ns (hold hs) x = ev ns (hold hs) id) (fun x => (x + 1).toNat) (fun x hx => ?_) ⟨hid, rfl⟩
    obtain ⟨hx, he⟩ := hx
    refine ⟨fun h0 => ⟨⟨h0, hx.2⟩, fun y hy _ => ?_⟩, fun h0 => ?_⟩
    · have h0 : 0 ≤ x := h0
      have ey := nd_get hy
      obtain ⟨k1, k2, k3, k4⟩ := kids hN hx h0
      obtain ⟨t0, _⟩ := hN.nod x h0 hx.2
      rw [ev_node hN h0 hx.2] at he
      rw [ey] at k1 k2 k3 k4 he t0
      refine ⟨fun hlt => ⟨⟨t0, hlt⟩, fun b hb => ?_⟩, fun hlt => ?_⟩
      · have hb' : hold hs y.1 = b := by
          unfold hold
          rw [decide_eq_true t0, decide_eq_true hlt, List.getD_eq_getElem?_getD, hb]
          rfl
        rw [hb'] at he
        refine ⟨fun e => ?_, fun e => ?_⟩
        · rw [if_pos e] at he; exact ⟨⟨k1, he⟩, by omega⟩
        · rw [if_neg e] at he; exact ⟨⟨k2, he⟩, by omega⟩
      · have hb' : hold hs y.1 = false := by simp [hold, hlt]
        rw [hb'] at he
        exact ⟨⟨k2, he⟩, by omega⟩
    · have hn : x < 0 := by omega
      rw [ev_leaf hn] at he
      refine ⟨by have := hx.1; constructor <;> omega, ?_⟩
      rw [he]; exact h
  · rw [if_neg hid] at h
    exact pvalid_ok (Cnd.no (by simpa using hid) h)
theorem size_loop {F : Int → Option Bool} {K : Int → Prop} {ks : List Int} (hks : Keys F ks) (hb : ks.length ≤ 100000) (h : ∀ n : Int, (∃ l : List Int, l.Nodup ∧ (∀ x, x ∈ l ↔ 0 ≤ x ∧ (F x).isSome = true) ∧ n = l.length) → K n) :
    Lp2 (fun (n : Int) (t : (Int → Option Bool) × List Int) (Y : Int → (Int → Option Bool) × List Int → Prop) => (AllIn t.fst t.snd → K n) ∧ ∀ k y, t.fst k = some y → NotIn k t.snd → Cnd (0 ≤ k) (InI (n + 1) ∧ Y (n + 1) (t.fst, k :: t.snd)) (Y n (t.fst, k :: t.snd))) 0 (F, []) := by
  refine Lp2.ind (fun (n : Int) (t : (Int → Option Bool) × List Int) => t.1 = F ∧ t.2.Nodup ∧ (∀ x ∈ t.2, (F x).isSome = true) ∧ n = (t.2.filter fun x => decide (0 ≤ x)).length) (fun (_ : Int) (t : (Int → Option Bool) × List Int) => ks.length - t.2.length) (fun n t hI => ?_) ⟨rfl, List.nodup_nil, by simp, by simp⟩
  obtain ⟨G, done⟩ := t
  obtain ⟨h1, h2, h3, h4⟩ := hI
  simp only at h1 h2 h3 h4
  subst h1
  have hle : done.length ≤ ks.length := nodup_le h2 fun x hx => (hks.2 x).2 (h3 x hx)
  refine ⟨fun hall => h n ⟨done.filter fun x => decide (0 ≤ x), h2.filter _, fun x => ?_, h4⟩, fun k y hk hn => ?_⟩
  · simp only [List.mem_filter, decide_eq_true_eq]
    exact ⟨fun a => ⟨a.2, h3 x a.1⟩, fun a => ⟨hall x a.2, a.1⟩⟩
  · have hn : k ∉ done := hn
    have hk : G k = some y := hk
    have h2' : (k :: done).Nodup := List.nodup_cons.2 ⟨hn, h2⟩
    have h3' : ∀ x ∈ k :: done, (G x).isSome = true := fun x hx => by
      rcases List.mem_cons.1 hx with rfl | hx
      · rw [hk]; rfl
      · exact h3 x hx
    have hle' : (k :: done).length ≤ ks.length := nodup_le h2' fun x hx => (hks.2 x).2 (h3' x hx)
    have hf : (done.filter fun x => decide (0 ≤ x)).length ≤ done.length := List.length_filter_le _ _
    simp only [List.length_cons] at hle'
    refine ⟨fun h0 => ⟨⟨by omega, by omega⟩, ⟨rfl, h2', h3', ?_⟩, by simp only [List.length_cons]; omega⟩, fun h0 => ⟨⟨rfl, h2', h3', ?_⟩, by simp only [List.length_cons]; omega⟩⟩
    · rw [List.filter_cons_of_pos (by simpa using h0)]; simp; omega
    · rw [List.filter_cons_of_neg (by simpa using h0)]; exact h4
/-- How many nodes a diagram contains. -/
def Szn (ns : List Nd) (id : Int) (n : Int) : Prop := ∃ l : List Int, l.Nodup ∧ (∀ x, x ∈ l ↔ Ok ns id ∧ 0 ≤ x ∧ Rch ns id x) ∧ n = l.length
theorem keys_le {ns : List Nd} (hN : Nod ns) {id : Int} (hid : Ok ns id) {F : Int → Option Bool} (hF : Rc ns id F) {ks : List Int} (hks : Keys F ks) : ks.length ≤ ns.length + 1001 := by
  have := nodup_le (l' := univ ns) hks.1 fun x hx => mem_univ (((hF.2 x).1 ((hks.2 x).1 hx)).ok hN hid)
  simpa [univ] using this
theorem pSize_ok {ns : List Nd} {ids : Nd → Option Int} {full : Bool} {id : Int} {K : Int → List Nd → (Nd → Option Int) → Bool → Prop} (hN : Nod ns) (hl : ns.length ≤ 4000) (h : ∀ n, Szn ns id n → K n ns ids full) : P_pSize ns ids full id K := by
  unfold P_pSize
  by_cases hid : Ok ns id
  · refine preach_ok hN hid fun F hF ks hks => size_loop hks (by have := keys_le hN hid hF hks; omega) fun n ⟨l, h1, h2, h3⟩ => h n ⟨l, h1, fun x => ?_, h3⟩
    rw [h2, hF.2]
    exact ⟨fun a => ⟨hid, a⟩, fun a => a.2⟩
  · refine preach_bad hid fun ks hks => size_loop hks (by have : ks = [] := List.eq_nil_iff_forall_not_mem.2 fun x hx => by have := (hks.2 x).1 hx; simp at this
                                                          subst this; simp) fun n ⟨l, h1, h2, h3⟩ => h n ⟨l, h1, fun x => ?_, h3⟩
    rw [h2]; simp [hid]
theorem rSize_ok {ns : List Nd} {ids : Nd → Option Int} {full : Bool} {id : Int} {K : Int → List Nd → (Nd → Option Int) → Bool → Prop} (hN : Nod ns) (hl : ns.length ≤ 4000) (h : ∀ n, Szn ns id n → K n ns ids full) : P_rSize ns ids full id K := by
  unfold P_rSize
  by_cases hid : Ok ns id
  · refine ris_ok (Cnd.yes (decide_eq_true hid) (rreach_ok hN hl hid fun F hF ks hks => size_loop hks (by have := keys_le hN hid hF hks; omega) fun n ⟨l, h1, h2, h3⟩ => h n ⟨l, h1, fun x => ?_, h3⟩))
    rw [h2, hF.2]
    exact ⟨fun a => ⟨hid, a⟩, fun a => a.2⟩
  · exact ris_ok (Cnd.no (by simpa using hid) (h 0 ⟨[], List.nodup_nil, fun x => by simp [hid], rfl⟩))
end Go.Dg5
