/- What is needed, and what needs itself: the plain meanings do what is specified. Conditions: those in the statements. -/
import Derived.Test.YtegcjfidfinogaaGrDraw
namespace Go.Fl
open Lk Gr
/-- How many edges lead to what has not been seen. -/
def uu (E : List E2) (p : ByteArray → Bool) : Nat := ((E.map (·.2)).filter fun y => !p y).length
theorem uu_lt {E : List E2} {p q : ByteArray → Bool} (h : ∀ y, p y = true → q y = true) {m : ByteArray} (hm : ∃ e ∈ E, e.2 = m) (hp : p m = false) (hq : q m = true) : uu E q < uu E p := by
  unfold uu
  exact Lk.filter_lt (E.map (·.2)) (fun y => !q y) (fun y => !p y) (fun y hy => by
    rcases hpy : p y with _ | _
    · rfl
    · rw [h y hpy] at hy; cases hy) (List.mem_map.2 hm) (by simp [hp]) (by simp [hq])
theorem uu_le (E : List E2) (p : ByteArray → Bool) : uu E p ≤ E.length := by
  unfold uu
  refine Nat.le_trans (List.length_filter_le _ _) ?_
  simp
theorem rch_len {E : List E2} {x : ByteArray} {l : List ByteArray} (hn : l.Nodup) (h : ∀ y ∈ l, Rch E x y) : l.length ≤ E.length := by
  have := nodup_len (ys := l) (zs := E.map (·.2)) hn fun y hy => List.mem_map.2 (h y hy).target
  simpa using this
theorem table_ok (E : List E2) (hE : E.length ≤ 1000) : P_graph_table E (fun F => Tab E F) := by
  unfold P_graph_table
  intro _
  refine Lp2.ind (fun k F => k ≤ E.length ∧ Tab (E.take k) F) (fun k _ => E.length - k) (fun k F hk => ?_) ⟨Nat.zero_le _, Tab.nil⟩
  obtain ⟨hk, ht⟩ := hk
  refine Cnd.mk (fun h e he => ?_) (fun h => ?_)
  · have := ltq he
    have h3 := nd_len (E.take k) e.1
    have h4 : (E.take k).length ≤ E.length := List.length_take_le' _ _
    refine ⟨by unfold Sml; rw [ht e.1]; simp; omega, ⟨by omega, by rw [tk1 he]; exact ht.snoc e⟩, by omega⟩
  · have h2 : k = E.length := by omega
    subst h2; rw [List.take_length] at ht; exact ht
theorem reach_ok (E : List E2) (F : ByteArray → Option (List ByteArray)) (x : ByteArray) (hE : E.length ≤ 1000) (ht : Tab E F) :
    P_graph_reach F x (fun G => (∀ y, (G y).isSome = true ↔ Rch E x y) ∧ ∀ y b, G y = some b → b = true) := by
  unfold P_graph_reach
  refine Lp2.ind (fun op G => (∀ y b, G y = some b → b = true) ∧ (∀ y, (G y).isSome = true → Rch E x y) ∧ (∀ z ∈ op, z = x ∨ (G z).isSome = true) ∧ (∀ e ∈ E, e.1 = x ∨ (G e.1).isSome = true → e.1 ∈ op ∨ (G e.2).isSome = true) ∧ op.length + uu E (fun y => (G y).isSome) ≤ 1 + E.length)
    (fun op G => 2 * uu E (fun y => (G y).isSome) + op.length) (fun op G hi => ?_) ⟨by simp, by simp, by simp, fun e _ h => by simp at h ⊢; exact h, by have := uu_le E (fun _ => false); simp; omega⟩
  obtain ⟨ia, ib, ic, iq, ie⟩ := hi
  intro _
  refine Cnd.mk (fun h => ?_) (fun h => ?_)
  · obtain ⟨j, hj⟩ : ∃ j, op.length = j + 1 := ⟨op.length - 1, by omega⟩
    obtain ⟨x1, hx1⟩ : ∃ x1, op[j]? = some x1 := ⟨_, List.getElem?_eq_getElem (by omega)⟩
    have hop : op = op.take j ++ [x1] := by rw [← tk1 hx1, ← hj, List.take_length]
    have hlt : (op.take j).length = j := by rw [List.length_take]; omega
    have hnd := ht x1
    refine ⟨InI.mk (by omega) (by omega), j, by omega, x1, hx1, InI.mk (by omega) (by omega), j, by omega, by omega, ?_⟩
    intro _
    rw [hnd]
    refine Lp3.ind (fun op2 k G2 => k ≤ (nd E x1).length ∧ (∀ y b, G2 y = some b → b = true) ∧ (∀ y, (G2 y).isSome = true → Rch E x y) ∧ (∀ z ∈ op2, z = x ∨ (G2 z).isSome = true) ∧ (∀ y, (G y).isSome = true → (G2 y).isSome = true) ∧
        (∀ e ∈ E, e.1 = x ∨ (G2 e.1).isSome = true → e.1 = x1 ∨ e.1 ∈ op2 ∨ (G2 e.2).isSome = true) ∧ (∀ m ∈ (nd E x1).take k, (G2 m).isSome = true) ∧ op2.length + uu E (fun y => (G2 y).isSome) ≤ E.length ∧ 2 * uu E (fun y => (G2 y).isSome) + op2.length ≤ 2 * uu E (fun y => (G y).isSome) + j)
      (fun _ k _ => (nd E x1).length - k) (fun op2 k G2 hi => ?_) ⟨Nat.zero_le _, ia, ib, fun z hz => ic z (List.mem_of_mem_take hz), fun _ h => h, fun e he h => ?_, by simp, by omega, by omega⟩
    · obtain ⟨jk, ja, jb, jc, jm, jd, jf, je, jg⟩ := hi
      refine Cnd.mk (fun h m hm => ?_) (fun h => ?_)
      · have := ltq hm
        obtain ⟨e0, he0, e1, e2⟩ := mem_nd.1 (List.mem_of_getElem? hm)
        have hrm : Rch E x m := by
          rcases ic x1 (List.mem_of_getElem? hx1) with h1 | h1
          · rw [← e2]; have := Rch.edge he0; rwa [e1, h1] at this
          · rw [← e2]; exact Rch.step (by rw [e1]; exact ib x1 h1) he0
        refine Cnd.mk (fun hs => ⟨⟨by omega, ja, jb, jc, jm, jd, fun m' hm' => ?_, je, jg⟩, by omega⟩) (fun hs => ?_)
        · rw [tk1 hm] at hm'
          rcases List.mem_append.1 hm' with h2 | h2
          · exact jf m' h2
          · rw [List.mem_singleton.1 h2]
            rcases hq : G2 m with _ | b
            · rw [hq] at hs; cases hs
            · rfl
        · have hnone : (G2 m).isSome = false := by
            rcases hq : G2 m with _ | b
            · rfl
            · rw [hq, ja m b hq] at hs; exact absurd rfl hs
          have hu := uu_lt (E := E) (p := fun y => (G2 y).isSome) (q := fun y => (put G2 m true y).isSome) (fun y hy => by unfold put; split <;> simp [hy]) ⟨e0, he0, e2⟩ hnone (by simp [put])
          have hmono : ∀ y, (G2 y).isSome = true → (put G2 m true y).isSome = true := fun y hy => by unfold put; split <;> simp [hy]
          refine ⟨by unfold Sml; simp; omega, ⟨by omega, fun y b hb => ?_, fun y hy => ?_, fun z hz => ?_, fun y hy => hmono y (jm y hy), fun e he hor => ?_, fun m' hm' => ?_, by simp; omega, by simp; omega⟩, by omega⟩
          · unfold put at hb
            split at hb
            · cases hb; rfl
            · exact ja y b hb
          · unfold put at hy
            split at hy
            · rename_i hym; rw [hym]; exact hrm
            · exact jb y hy
          · rcases List.mem_append.1 hz with hz | hz
            · exact (jc z hz).imp id (hmono z)
            · rw [List.mem_singleton.1 hz]; exact .inr (by simp [put])
          · by_cases hem : e.1 = m
            · exact .inr (.inl (by rw [hem]; simp))
            · have : (put G2 m true e.1).isSome = (G2 e.1).isSome := by simp [put, hem]
              rw [this] at hor
              rcases jd e he hor with h1 | h1 | h1
              · exact .inl h1
              · exact .inr (.inl (by simp [h1]))
              · exact .inr (.inr (hmono _ h1))
          · rw [tk1 hm] at hm'
            rcases List.mem_append.1 hm' with h2 | h2
            · exact hmono _ (jf m' h2)
            · rw [List.mem_singleton.1 h2]; simp [put]
      · have h2 : k = (nd E x1).length := by omega
        subst h2; rw [List.take_length] at jf
        refine ⟨⟨ja, jb, jc, fun e he hor => ?_, by omega⟩, by omega⟩
        rcases jd e he hor with h1 | h1 | h1
        · exact .inr (jf e.2 (mem_nd.2 ⟨e, he, h1, rfl⟩))
        · exact .inl h1
        · exact .inr h1
    · rcases iq e he h with h1 | h1
      · rw [hop] at h1
        rcases List.mem_append.1 h1 with h1 | h1
        · exact .inr (.inl h1)
        · exact .inl (List.mem_singleton.1 h1)
      · exact .inr (.inr h1)
  · have h0 : op = [] := List.eq_nil_of_length_eq_zero (by omega)
    subst h0
    exact ⟨fun y => rch_iff (S := fun y => (G y).isSome = true) ib (fun e he hor => by
      rcases iq e he hor with h1 | h1
      · cases h1
      · exact h1) y, ia⟩
theorem grNeeds_ok (E : List E2) (x : ByteArray) (hE : E.length ≤ 1000) : P_graph_Needs E x (fun l => Need E x l) := by
  unfold P_graph_Needs
  refine Jn1.mk _ (table_ok E hE) (fun F hF => ?_)
  refine Jn1.mk _ (reach_ok E F x hE hF) (fun G hG => ?_)
  obtain ⟨hG, _⟩ := hG
  intro ks hn hk
  have hkl : ks.length ≤ E.length := rch_len hn fun y hy => (hG y).1 ((hk y).1 hy)
  refine Lp2.ind (fun out done => done.Nodup ∧ (∀ y ∈ done, y ∈ ks) ∧ out.Nodup ∧ (∀ y, y ∈ out ↔ y ∈ done)) (fun _ done => ks.length - done.length) (fun out done hi => ?_) ⟨by simp, by simp, by simp, by simp⟩
  obtain ⟨i1, i2, i3, i4⟩ := hi
  have hol := nodup_len (zs := ks) i3 fun y hy => i2 y ((i4 y).1 hy)
  refine ⟨fun hx => ⟨srt_asc i3, fun y => ?_⟩, fun k b hb hnd => ?_⟩
  · rw [mem_srt, i4, ← hG y]
    exact ⟨fun hy => (hk y).1 (i2 y hy), fun hy => hx y hy⟩
  · have hkk : k ∈ ks := (hk k).2 (by rw [hb]; rfl)
    have hn2 : (k :: done).Nodup := List.nodup_cons.2 ⟨hnd, i1⟩
    have hs2 : ∀ y ∈ k :: done, y ∈ ks := fun y hy => by
      rcases List.mem_cons.1 hy with rfl | hy
      · exact hkk
      · exact i2 y hy
    have hl2 := nodup_len hn2 hs2
    rw [List.length_cons] at hl2
    refine ⟨by unfold Sml; simp; omega, ⟨hn2, hs2, nodup_snoc i3 fun hm => hnd ((i4 k).1 hm), fun y => ?_⟩, by rw [List.length_cons]; omega⟩
    rw [List.mem_append, List.mem_singleton, List.mem_cons, i4]; exact or_comm
open Classical in
theorem refNeeds_ok (E : List E2) (x : ByteArray) (hE : E.length ≤ 900) : P_ref9_Needs E x (fun l => Need E x l) := by
  unfold P_ref9_Needs
  refine Lp2.ind (fun out op => Asc out ∧ (∀ y ∈ out, Rch E x y) ∧ (∀ z ∈ op, z = x ∨ z ∈ out) ∧ (∀ e ∈ E, e.1 = x ∨ e.1 ∈ out → e.1 ∈ op ∨ e.2 ∈ out) ∧ op.length + uu E (fun y => decide (y ∈ out)) ≤ 1 + E.length)
    (fun out op => 2 * uu E (fun y => decide (y ∈ out)) + op.length) (fun out op hi => ?_) ⟨by simp [Asc], by simp, by simp, fun e _ h => by simp at h ⊢; exact h, by have := uu_le E (fun y => decide (y ∈ ([] : List ByteArray))); simp at this ⊢; omega⟩
  obtain ⟨ia, ib, ic, iq, ie⟩ := hi
  intro _
  refine Cnd.mk (fun h => ?_) (fun h => ?_)
  · obtain ⟨x1, t, hop⟩ : ∃ x1 t, op = x1 :: t := by
      cases op with
      | nil => simp at h
      | cons a b => exact ⟨a, b, rfl⟩
    subst hop
    refine ⟨x1, rfl, by simp, ?_⟩
    rw [List.length_cons] at ie
    show Lp3 _ out t 0
    refine Lp3.ind (fun out2 op2 i => i ≤ E.length ∧ Asc out2 ∧ (∀ y ∈ out2, Rch E x y) ∧ (∀ z ∈ op2, z = x ∨ z ∈ out2) ∧ (∀ y ∈ out, y ∈ out2) ∧
        (∀ e ∈ E, e.1 = x ∨ e.1 ∈ out2 → e.1 = x1 ∨ e.1 ∈ op2 ∨ e.2 ∈ out2) ∧ (∀ e ∈ E.take i, e.1 = x1 → e.2 ∈ out2) ∧ op2.length + uu E (fun y => decide (y ∈ out2)) ≤ E.length ∧ 2 * uu E (fun y => decide (y ∈ out2)) + op2.length ≤ 2 * uu E (fun y => decide (y ∈ out)) + t.length)
      (fun _ _ i => E.length - i) (fun out2 op2 i hi => ?_) ⟨Nat.zero_le _, ia, ib, fun z hz => ic z (by simp [hz]), fun _ h => h, fun e he h => ?_, by simp, by omega, by omega⟩
    · obtain ⟨jk, ja, jb, jc, jm, jd, jf, je, jg⟩ := hi
      have hol : out2.length ≤ E.length := rch_len (asc_nodup ja) jb
      intro _
      refine Cnd.mk (fun h e he => ?_) (fun h => ?_)
      · have := ltq he
        have hem := List.mem_of_getElem? he
        have next : ∀ {o2 p2 : List ByteArray}, (e.1 = x1 → e.2 ∈ o2) → (∀ y ∈ out2, y ∈ o2) → ∀ e' ∈ E.take (i + 1), e'.1 = x1 → e'.2 ∈ o2 := fun {o2 p2} hh hs e' he' hx => by
          rw [tk1 he] at he'
          rcases List.mem_append.1 he' with h2 | h2
          · exact hs _ (jf e' h2 hx)
          · rw [List.mem_singleton.1 h2] at hx ⊢; exact hh hx
        refine Cnd.mk (fun hx => ?_) (fun hx => ⟨⟨by omega, ja, jb, jc, jm, jd, next (p2 := []) (fun hh => absurd hh hx) fun _ h => h, je, jg⟩, by omega⟩)
        refine Jn1.mk _ (Has_ok out2 e.2) (fun r hr => ?_)
        refine Cnd.mk (fun h1 => ⟨⟨by omega, ja, jb, jc, jm, jd, next (p2 := []) (fun _ => hr.1 h1) fun _ h => h, je, jg⟩, by omega⟩) (fun h1 => ?_)
        have hnot : e.2 ∉ out2 := fun hm => h1 (hr.2 hm)
        refine Jn1.mk _ (Add_ok out2 e.2 ja (by omega)) (fun o2 ho2 => ?_)
        obtain ⟨k1, k2, _, _⟩ := ho2
        have hsub : ∀ y ∈ out2, y ∈ o2 := fun y hy => (k2 y).2 (.inl hy)
        have hin : e.2 ∈ o2 := (k2 _).2 (.inr rfl)
        have hu := uu_lt (E := E) (p := fun y => decide (y ∈ out2)) (q := fun y => decide (y ∈ o2)) (fun y hy => by simp at hy ⊢; exact hsub y hy) ⟨e, hem, rfl⟩ (by simp [hnot]) (by simp [hin])
        have hrm : Rch E x e.2 := by
          rcases ic x1 (by simp) with h1 | h1
          · have := Rch.edge hem; rwa [hx, h1] at this
          · exact Rch.step (by rw [hx]; exact ib x1 h1) hem
        refine ⟨by unfold Sml; omega, by unfold Sml; simp; omega, ⟨by omega, k1, fun y hy => ?_, fun z hz => ?_, fun y hy => hsub y (jm y hy), fun e' he' hor => ?_, next (p2 := []) (fun _ => hin) hsub, by simp; omega, by simp; omega⟩, by omega⟩
        · rcases (k2 y).1 hy with h2 | h2
          · exact jb y h2
          · rw [h2]; exact hrm
        · rcases List.mem_append.1 hz with hz | hz
          · exact (jc z hz).imp (fun h => h) (hsub z)
          · rw [List.mem_singleton.1 hz]; exact .inr hin
        · have hor2 : e'.1 = e.2 ∨ (e'.1 = x ∨ e'.1 ∈ out2) := by
            rcases hor with h2 | h2
            · exact .inr (.inl h2)
            · rcases (k2 _).1 h2 with h3 | h3
              · exact .inr (.inr h3)
              · exact .inl h3
          rcases hor2 with h2 | h2
          · exact .inr (.inl (by rw [h2]; simp))
          · rcases jd e' he' h2 with h3 | h3 | h3
            · exact .inl h3
            · exact .inr (.inl (by simp [h3]))
            · exact .inr (.inr (hsub _ h3))
      · have h2 : i = E.length := by omega
        subst h2; rw [List.take_length] at jf
        refine ⟨⟨ja, jb, jc, fun e he hor => ?_, by omega⟩, by rw [List.length_cons]; omega⟩
        rcases jd e he hor with h1 | h1 | h1
        · exact .inr (jf e he h1)
        · exact .inl h1
        · exact .inr h1
    · rcases iq e he h with h1 | h1
      · rcases List.mem_cons.1 h1 with h1 | h1
        · exact .inl h1
        · exact .inr (.inl h1)
      · exact .inr (.inr h1)
  · have h0 : op = [] := List.eq_nil_of_length_eq_zero (by omega)
    subst h0
    exact ⟨ia, rch_iff (S := fun y => y ∈ out) ib (fun e he hor => by
      rcases iq e he hor with h1 | h1
      · cases h1
      · exact h1)⟩
theorem refCyclic_ok (ns : List ByteArray) (E : List E2) (hn : ns.length ≤ 900) (hE : E.length ≤ 900) : P_ref9_Cyclic ns E (fun l => Cyc ns E l) := by
  unfold P_ref9_Cyclic
  refine Lp2.ind (fun out i => i ≤ ns.length ∧ Asc out ∧ ∀ y, y ∈ out ↔ y ∈ ns.take i ∧ Rch E y y) (fun _ i => ns.length - i) (fun out i hi => ?_) ⟨Nat.zero_le _, by simp [Asc], by simp⟩
  obtain ⟨hi, ha, hm⟩ := hi
  have hol : out.length ≤ ns.length := nodup_len (asc_nodup ha) fun y hy => List.mem_of_mem_take ((hm y).1 hy).1
  intro _
  refine Cnd.mk (fun h x hx => ?_) (fun h => ?_)
  · have := ltq hx
    refine Jn1.mk _ (refNeeds_ok E x hE) (fun l hl => ?_)
    refine Jn1.mk _ (Has_ok l x) (fun r hr => ?_)
    rw [hl.2] at hr
    refine Cnd.mk (fun h1 => ?_) (fun h1 => ⟨⟨by omega, ha, fun y => ?_⟩, by omega⟩)
    · refine Jn1.mk _ (Add_ok out x ha (by omega)) (fun o2 ho2 => ⟨⟨by omega, ho2.1, fun y => ?_⟩, by omega⟩)
      rw [ho2.2.1, hm, tk1 hx, List.mem_append, List.mem_singleton]
      constructor
      · rintro (⟨a, b⟩ | rfl)
        · exact ⟨.inl a, b⟩
        · exact ⟨.inr rfl, hr.1 h1⟩
      · rintro ⟨a | a, b⟩
        · exact .inl ⟨a, b⟩
        · exact .inr a
    · rw [hm, tk1 hx, List.mem_append, List.mem_singleton]
      constructor
      · rintro ⟨a, b⟩; exact ⟨.inl a, b⟩
      · rintro ⟨a | rfl, b⟩
        · exact ⟨a, b⟩
        · exact absurd (hr.2 b) h1
  · have h2 : i = ns.length := by omega
    subst h2; rw [List.take_length] at hm
    exact ⟨ha, hm⟩
open Classical in
theorem grCyclic_ok (ns : List ByteArray) (E : List E2) (hn : ns.length ≤ 900) (hE : E.length ≤ 900) : P_graph_Cyclic ns E (fun l => Cyc ns E l) := by
  unfold P_graph_Cyclic
  refine Jn1.mk _ (table_ok E (by omega)) (fun F hF => ?_)
  obtain ⟨c1, c2, _, c4⟩ := cpt_srt ns
  generalize cpt (srt ns) = L at c1 c2 c4
  refine ⟨by unfold Sml; omega, by unfold Sml; omega, ?_⟩
  intro _
  refine Lp2.ind (fun out k => k ≤ L.length ∧ out = (L.take k).filter fun y => decide (Rch E y y)) (fun _ k => L.length - k) (fun out k hi => ?_) ⟨Nat.zero_le _, by simp⟩
  obtain ⟨hk, rfl⟩ := hi
  have hol : ((L.take k).filter fun y => decide (Rch E y y)).length ≤ k := Nat.le_trans (List.length_filter_le _ _) (List.length_take_le _ _)
  refine Cnd.mk (fun h x hx => ?_) (fun h => ?_)
  · have := ltq hx
    refine Jn1.mk _ (reach_ok E F x (by omega) hF) (fun G hG => ?_)
    have hgx : (G x).getD false = true ↔ Rch E x x := by
      rw [← hG.1 x]
      rcases hq : G x with _ | b
      · simp
      · simp [hG.2 x b hq]
    refine Cnd.mk (fun h1 => ⟨by unfold Sml; simp; omega, ⟨by omega, ?_⟩, by omega⟩) (fun h1 => ⟨⟨by omega, ?_⟩, by omega⟩)
    · rw [tk1 hx, List.filter_append]
      simp [hgx.1 h1]
    · have hno : ¬ Rch E x x := fun hh => h1 (hgx.2 hh)
      rw [tk1 hx, List.filter_append]
      simp [hno]
  · have h2 : k = L.length := by omega
    subst h2
    rw [List.take_length]
    refine ⟨c1.sublist List.filter_sublist, fun y => ?_⟩
    rw [List.mem_filter, c2]; simp
end Go.Fl
