/- Functions of graphs do what is specified: their plain meanings are proved. Conditions: those in the statements. -/
import Derived.Test.YtegcjfidfinogaaPuC
import Derived.Test.YtegcjfidfinogaaGrLaw
namespace Go.Fl
open Lk Gr

theorem Cnd.mk {c A B : Prop} (h : c → A) (k : ¬ c → B) : Cnd c A B := ⟨h, k⟩
theorem tk1 {α : Type} {l : List α} {n : Nat} {e : α} (h : l[n]? = some e) : l.take (n + 1) = l.take n ++ [e] := by
  rw [List.take_add_one, h]; rfl
theorem ltq {α : Type} {l : List α} {k : Nat} {x : α} (h : l[k]? = some x) : k < l.length := (List.getElem?_eq_some_iff.1 h).1
theorem Has_ok (l : List ByteArray) (s : ByteArray) : P_ref1_Has l s (fun r => (r = true ↔ s ∈ l)) := by
  unfold P_ref1_Has
  refine Lp1.ind (fun i => i ≤ l.length ∧ s ∉ l.take i) (fun i => l.length - i) (fun i hi => ?_) ⟨Nat.zero_le _, by simp⟩
  obtain ⟨hi, hno⟩ := hi
  intro _
  refine Cnd.mk (fun h => ?_) (fun h => ?_)
  · intro x hx
    refine Cnd.mk (fun h2 => ?_) (fun h2 => ?_)
    · subst h2; simp [List.mem_of_getElem? hx]
    · have := ltq hx
      refine ⟨⟨by omega, ?_⟩, by omega⟩
      rw [tk1 hx]; simp [hno]; exact fun e => h2 e.symm
  · have : i = l.length := by omega
    subst this; simp at hno; simp [hno]
theorem Same_ok (a b : List ByteArray) : P_ref1_Same a b (fun r => (r = true ↔ a = b)) := by
  unfold P_ref1_Same
  intro _ _
  refine Cnd.mk (fun hl => ?_) (fun hl => ?_)
  · refine Lp1.ind (fun i => i ≤ a.length ∧ a.take i = b.take i) (fun i => a.length - i) (fun i hi => ?_) ⟨Nat.zero_le _, by simp⟩
    obtain ⟨hi, he⟩ := hi
    refine Cnd.mk (fun h => ?_) (fun h => ?_)
    · intro x hx
      have hlt := ltq hx
      obtain ⟨y, hy⟩ : ∃ y, b[i]? = some y := ⟨_, List.getElem?_eq_getElem (by omega)⟩
      refine ⟨y, hy, Cnd.mk (fun h2 => ?_) (fun h2 => ?_)⟩
      · subst h2
        exact ⟨⟨by omega, by rw [tk1 hx, tk1 hy, he]⟩, by omega⟩
      · simp
        intro e; subst e
        rw [hx] at hy; exact h2 (Option.some.inj hy)
    · have h1 : i = a.length := by omega
      subst h1
      have h2 : a.length = b.length := by omega
      rw [List.take_length, h2, List.take_length] at he
      simp [he]
  · simp; intro e; subst e; exact hl rfl
/-- A text goes to its place. -/
theorem Add_ok (l : List ByteArray) (s : ByteArray) (ha : Asc l) (hl : l.length ≤ 1000) : P_ref1_Add l s (fun r => Asc r ∧ (∀ y, y ∈ r ↔ y ∈ l ∨ y = s) ∧ (s ∉ l → r.length = l.length + 1) ∧ r.length ≤ l.length + 1) := by
  unfold P_ref1_Add
  refine Jn1.mk (fun i => i ≤ l.length ∧ (∀ y ∈ l.take i, blt y s) ∧ ∀ x, l[i]? = some x → ¬ blt x s) ?_ (fun i hi => ?_)
  · refine Lp1.ind (fun i => i ≤ l.length ∧ ∀ y ∈ l.take i, blt y s) (fun i => l.length - i) (fun i hi => ?_) ⟨Nat.zero_le _, by simp⟩
    obtain ⟨hi, hb⟩ := hi
    intro _
    refine Cnd.mk (fun h => ?_) (fun h => ?_)
    · intro x hx
      have := ltq hx
      refine Cnd.mk (fun h2 => ⟨⟨by omega, fun y hy => ?_⟩, by omega⟩) (fun h2 => ⟨hi, hb, fun x' hx' => by rw [hx] at hx'; cases hx'; exact h2⟩)
      rw [tk1 hx] at hy
      rcases List.mem_append.1 hy with hy | hy
      · exact hb y hy
      · rw [List.mem_singleton.1 hy]; exact h2
    · exact ⟨hi, hb, fun x hx => absurd (ltq hx) (by omega)⟩
  · obtain ⟨hi, hb, hn⟩ := hi
    refine ⟨s ∉ l, fun hs => ?_, ?_⟩
    · obtain ⟨h1, h2⟩ := insert_ok ha hs hb hn
      have hlen : ((l.take i ++ [s]) ++ l.drop i).length = l.length + 1 := by simp; omega
      have ht : (l.take i).length ≤ l.length := List.length_take_le' _ _
      exact ⟨hi, by unfold Sml; omega, hi, by unfold Sml; simp; omega, by unfold Sml; omega, h1, fun y => by rw [h2]; exact or_comm, fun _ => hlen, by omega⟩
    · intro _
      refine Cnd.mk (fun h x hx => Cnd.mk (fun e => ?_) (fun hne => ?_)) (fun h => ?_)
      · subst e
        have hm := List.mem_of_getElem? hx
        exact ⟨ha, fun y => ⟨.inl, fun hy => hy.elim id fun e => e ▸ hm⟩, fun h => absurd hm h, by omega⟩
      · intro hm
        obtain ⟨j, hj⟩ := List.mem_iff_getElem?.1 hm
        rcases Nat.lt_trichotomy j i with h1 | h1 | h1
        · exact blt_irrefl s (hb s (List.mem_iff_getElem?.2 ⟨j, by rw [List.getElem?_take, if_pos h1]; exact hj⟩))
        · subst h1; rw [hx] at hj; exact hne (Option.some.inj hj)
        · exact hn x hx (asc_at ha hx hj h1)
      · intro hm
        have : l.take i = l := List.take_of_length_le (by omega)
        rw [this] at hb
        exact blt_irrefl s (hb s hm)
theorem Clone_ok (s : List ByteArray) (hs : s.length ≤ 1000) : P_slices_Clone___string_string_ s (fun r => r = s) := by
  unfold P_slices_Clone___string_string_
  intro r h
  exact Cnd.mk (fun hr => (h hr).symm) (fun _ => ⟨by unfold Sml; omega, rfl⟩)
theorem Index_ok (l : List ByteArray) (x : ByteArray) : P_slices_Index___string_string_ l x (fun r => (r = -1 ∧ x ∉ l) ∨ (0 ≤ r ∧ x ∈ l)) := by
  unfold P_slices_Index___string_string_
  intro _
  refine Lp1.ind (fun k => k ≤ l.length ∧ x ∉ l.take k) (fun k => l.length - k) (fun k hk => ?_) ⟨Nat.zero_le _, by simp⟩
  obtain ⟨hk, hno⟩ := hk
  refine Cnd.mk (fun h y hy => ?_) (fun h => ?_)
  · have := ltq hy
    refine Cnd.mk (fun e => .inr ⟨by omega, ?_⟩) (fun hne => ⟨⟨by omega, ?_⟩, by omega⟩)
    · subst e; exact List.mem_of_getElem? hy
    · rw [tk1 hy]; simp [hno]; exact hne
  · have h2 : k = l.length := by omega
    subst h2; rw [List.take_length] at hno
    exact .inl ⟨rfl, hno⟩
theorem Contains_ok (l : List ByteArray) (x : ByteArray) : P_slices_Contains___string_string_ l x (fun r => (r = true ↔ x ∈ l)) := by
  unfold P_slices_Contains___string_string_
  refine Jn1.mk _ (Index_ok l x) (fun r hr => ?_)
  rcases hr with ⟨rfl, h⟩ | ⟨h, h2⟩
  · simp [h]
  · simp [h, h2]
/-! The order. -/
def Okn (E : List E2) (o : List ByteArray) (x : ByteArray) : Prop := ∀ e ∈ E, e.1 = x → e.2 ∈ o
theorem ready_ok (o : List ByteArray) (E : List E2) (x : ByteArray) : P_ref9_ready o E x (fun r => (r = true ↔ (x ∉ o ∧ Okn E o x))) := by
  unfold P_ref9_ready
  refine Lp1.ind (fun i => i ≤ E.length ∧ ∀ e ∈ E.take i, e.1 = x → e.2 ∈ o) (fun i => E.length - i) (fun i hi => ?_) ⟨Nat.zero_le _, by simp⟩
  obtain ⟨hi, hall⟩ := hi
  intro _
  refine Cnd.mk (fun h e he => ?_) (fun h => ?_)
  · have := ltq he
    have next : (e.1 = x → e.2 ∈ o) → ((i + 1 ≤ E.length ∧ ∀ e' ∈ E.take (i + 1), e'.1 = x → e'.2 ∈ o) ∧ E.length - (i + 1) < E.length - i) := fun hh => ⟨⟨by omega, fun e' he' => by
      rw [tk1 he] at he'
      rcases List.mem_append.1 he' with h1 | h1
      · exact hall e' h1
      · rw [List.mem_singleton.1 h1]; exact hh⟩, by omega⟩
    refine Cnd.mk (fun hx => ?_) (fun hx => next fun hh => absurd hh hx)
    refine Jn1.mk _ (Has_ok o e.2) (fun r hr => ?_)
    refine Cnd.mk (fun h1 => next fun _ => hr.1 h1) (fun h1 => ?_)
    simp
    intro _ hk
    exact h1 (hr.2 (hk e (List.mem_of_getElem? he) hx))
  · have h2 : i = E.length := by omega
    subst h2; rw [List.take_length] at hall
    refine Jn1.mk _ (Has_ok o x) (fun r hr => ?_)
    cases r
    · simp at hr ⊢; exact ⟨hr, hall⟩
    · simp at hr ⊢; intro h; exact absurd hr h
theorem refOrder_ok (ns : List ByteArray) (E : List E2) (hn : ns.length ≤ 1000) : P_ref9_Order ns E (fun l r => Ord ns E l r) := by
  unfold P_ref9_Order
  refine Lp1.ind (fun i => i ≤ ns.length ∧ (ns.take i).Nodup) (fun i => ns.length - i) (fun i hi => ?_) ⟨Nat.zero_le _, by simp⟩
  obtain ⟨hi, hnd⟩ := hi
  intro _
  refine Cnd.mk (fun h => ⟨hi, fun x hx => ?_⟩) (fun h => ?_)
  · have := ltq hx
    refine Jn1.mk _ (Has_ok (ns.take i) x) (fun r hr => ?_)
    refine Cnd.mk (fun h1 => .inl ⟨fun hd => nodup_at hd hx (hr.1 h1), rfl, rfl⟩) (fun h1 => ⟨⟨by omega, ?_⟩, by omega⟩)
    rw [tk1 hx]; exact nodup_snoc hnd fun hm => h1 (hr.2 hm)
  · have h2 : i = ns.length := by omega
    subst h2; rw [List.take_length] at hnd
    refine Lp1.ind (fun i => i ≤ E.length ∧ ∀ e ∈ E.take i, e.1 ∈ ns ∧ e.2 ∈ ns) (fun i => E.length - i) (fun i hi => ?_) ⟨Nat.zero_le _, by simp⟩
    obtain ⟨hi, hall⟩ := hi
    intro _
    refine Cnd.mk (fun h e he => ?_) (fun h => ?_)
    · have := ltq he
      refine Jn1.mk _ (Has_ok ns e.1) (fun r hr => ?_)
      refine Cnd.mk (fun h1 => ?_) (fun h1 => .inr (.inl ⟨hnd, ⟨e, List.mem_of_getElem? he, .inl fun hm => h1 (hr.2 hm)⟩, rfl, rfl⟩))
      refine Jn1.mk _ (Has_ok ns e.2) (fun r2 hr2 => ?_)
      refine Cnd.mk (fun h2 => ⟨⟨by omega, fun e' he' => ?_⟩, by omega⟩) (fun h2 => .inr (.inl ⟨hnd, ⟨e, List.mem_of_getElem? he, .inr fun hm => h2 (hr2.2 hm)⟩, rfl, rfl⟩))
      rw [tk1 he] at he'
      rcases List.mem_append.1 he' with h3 | h3
      · exact hall e' h3
      · rw [List.mem_singleton.1 h3]; exact ⟨hr.1 h1, hr2.1 h2⟩
    · have h2 : i = E.length := by omega
      subst h2; rw [List.take_length] at hall
      refine Lp1.ind (fun o => Grd ns E o ∧ o.length ≤ ns.length) (fun o => ns.length - o.length) (fun o ho => ?_) ⟨.nil, by simp⟩
      obtain ⟨hg, hle⟩ := ho
      intro _
      refine Cnd.mk (fun h => ?_) (fun h => .inr (.inr ⟨hnd, hall, .inr ⟨hg, by omega, rfl⟩⟩))
      refine Lp3.ind (fun least found i => i ≤ ns.length ∧ (found = true → Rdy ns E o least ∧ ∀ y ∈ ns.take i, Rdy ns E o y → ¬ blt y least) ∧ (found = false → ∀ y ∈ ns.take i, ¬ Rdy ns E o y)) (fun _ _ i => ns.length - i) (fun least found i hi => ?_) ⟨Nat.zero_le _, by simp, by simp⟩
      obtain ⟨hi, hf1, hf0⟩ := hi
      refine Cnd.mk (fun h => fun x hx => ?_) (fun h => ?_)
      · have := ltq hx
        have hxm := List.mem_of_getElem? hx
        refine Jn1.mk _ (ready_ok o E x) (fun r hr => ?_)
        have hrd : r = true ↔ Rdy ns E o x := hr.trans ⟨fun h => ⟨hxm, h.1, h.2⟩, fun h => ⟨h.2.1, h.2.2⟩⟩
        refine Cnd.mk (fun h1 => ?_) (fun h1 => ⟨⟨by omega, fun hf => ⟨(hf1 hf).1, fun y hy hry => ?_⟩, fun hf y hy => ?_⟩, by omega⟩)
        · have hrx := hrd.1 h1
          refine Cnd.mk (fun hf => ?_) (fun hf => ⟨⟨by omega, fun _ => ⟨hrx, fun y hy hry => ?_⟩, by simp⟩, by omega⟩)
          · obtain ⟨g1, g2⟩ := hf1 hf
            refine Cnd.mk (fun hb => ⟨⟨by omega, fun _ => ⟨hrx, fun y hy hry hyx => ?_⟩, by simp⟩, by omega⟩) (fun hb => ⟨⟨by omega, fun _ => ⟨g1, fun y hy hry => ?_⟩, by simp [hf]⟩, by omega⟩)
            · rw [tk1 hx] at hy
              rcases List.mem_append.1 hy with hy | hy
              · exact g2 y hy hry (blt_trans hyx hb)
              · rw [List.mem_singleton.1 hy] at hyx; exact blt_irrefl _ hyx
            · rw [tk1 hx] at hy
              rcases List.mem_append.1 hy with hy | hy
              · exact g2 y hy hry
              · rw [List.mem_singleton.1 hy]; exact hb
          · rw [tk1 hx] at hy
            rcases List.mem_append.1 hy with hy | hy
            · exact absurd hry (hf0 (by simpa using hf) y hy)
            · rw [List.mem_singleton.1 hy]; exact blt_irrefl _
        · rw [tk1 hx] at hy
          rcases List.mem_append.1 hy with hy | hy
          · exact (hf1 hf).2 y hy hry
          · rw [List.mem_singleton.1 hy] at hry; exact absurd (hrd.2 hry) h1
        · rw [tk1 hx] at hy
          rcases List.mem_append.1 hy with hy | hy
          · exact hf0 hf y hy
          · rw [List.mem_singleton.1 hy]; exact fun hry => h1 (hrd.2 hry)
      · have h2 : i = ns.length := by omega
        subst h2; rw [List.take_length] at hf1 hf0
        refine Cnd.mk (fun hf => ⟨by unfold Sml; omega, by unfold Sml; simp; omega, ⟨hg.snoc ⟨(hf1 hf).1, fun y hry => (hf1 hf).2 y hry.1 hry⟩, by simp; omega⟩, by simp; omega⟩) (fun hf => ?_)
        exact .inr (.inr ⟨hnd, hall, .inl ⟨o, hg, by omega, fun x hx => hf0 (by simpa using hf) x hx.1 hx, rfl, rfl⟩⟩)
theorem grOrder_ok (ns : List ByteArray) (E : List E2) (hn : ns.length ≤ 1000) (hE : E.length ≤ 1000) : P_graph_Order ns E (fun l r => Ord ns E l r) := by
  unfold P_graph_Order
  refine ⟨by unfold Sml; omega, ?_⟩
  refine Jn1.mk _ (Clone_ok (srt ns) (by rw [srt_length]; exact hn)) (fun s hs => ?_)
  subst hs
  have hcl := (cpt_srt ns).2.2.2
  refine ⟨by unfold Sml; omega, fun _ _ => ?_⟩
  refine Cnd.mk (fun h => ?_) (fun h => .inl ⟨fun hd => h (by rw [(cpt_nodup ns).2 hd]), rfl, rfl⟩)
  have hnd : ns.Nodup := (cpt_nodup ns).1 (by omega)
  intro _
  refine Lp2.ind (fun k F => k ≤ E.length ∧ (∀ e ∈ E.take k, e.1 ∈ ns ∧ e.2 ∈ ns) ∧ Tab (E.take k) F) (fun k _ => E.length - k) (fun k F hk => ?_) ⟨Nat.zero_le _, by simp, Tab.nil⟩
  obtain ⟨hk, hall, ht⟩ := hk
  refine Cnd.mk (fun h e he => ?_) (fun h => ?_)
  · have := ltq he
    refine Jn1.mk _ (Contains_ok (srt ns) e.1) (fun r hr => ?_)
    rw [mem_srt] at hr
    refine Cnd.mk (fun h1 => ?_) (fun h1 => .inr (.inl ⟨hnd, ⟨e, List.mem_of_getElem? he, .inl fun hm => h1 (hr.2 hm)⟩, rfl, rfl⟩))
    refine Jn1.mk _ (Contains_ok (srt ns) e.2) (fun r2 hr2 => ?_)
    rw [mem_srt] at hr2
    refine Cnd.mk (fun h2 => ⟨?_, ⟨by omega, fun e' he' => ?_, by rw [tk1 he]; exact ht.snoc e⟩, by omega⟩) (fun h2 => .inr (.inl ⟨hnd, ⟨e, List.mem_of_getElem? he, .inr fun hm => h2 (hr2.2 hm)⟩, rfl, rfl⟩))
    · have h3 := nd_len (E.take k) e.1
      have h4 : (E.take k).length ≤ E.length := List.length_take_le' _ _
      unfold Sml; rw [ht e.1]; simp; omega
    · rw [tk1 he] at he'
      rcases List.mem_append.1 he' with h3 | h3
      · exact hall e' h3
      · rw [List.mem_singleton.1 h3]; exact ⟨hr.1 h1, hr2.1 h2⟩
  · have h2 : k = E.length := by omega
    subst h2; rw [List.take_length] at hall ht
    refine Lp3.ind (fun left out G => Grd ns E out ∧ Asc left ∧ (∀ x, x ∈ left ↔ x ∈ ns ∧ x ∉ out) ∧ (∀ x, (G x).getD false = true ↔ x ∈ out) ∧ left.length + out.length = ns.length) (fun left _ _ => left.length) (fun left out G hi => ?_) ⟨.nil, srt_asc hnd, fun x => by simp [mem_srt], fun x => by simp, by simp [srt_length]⟩
    obtain ⟨hg, ha, hm, hG, hlen⟩ := hi
    intro _
    refine Cnd.mk (fun h => ?_) (fun h => .inr (.inr ⟨hnd, hall, .inr ⟨hg, by omega, rfl⟩⟩))
    refine Jn1.mk (fun r => (r < 0 ∧ ∀ x ∈ left, ¬ Okn E out x) ∨ ∃ (j : Nat) (x : ByteArray), r = (j : Int) ∧ left[j]? = some x ∧ Okn E out x ∧ ∀ y ∈ left.take j, ¬ Okn E out y) ?_ (fun r hr => ?_)
    · refine Lp1.ind (fun k => k ≤ left.length ∧ ∀ y ∈ left.take k, ¬ Okn E out y) (fun k => left.length - k) (fun k hk => ?_) ⟨Nat.zero_le _, by simp⟩
      obtain ⟨hk, hno⟩ := hk
      refine Cnd.mk (fun h x hx => ?_) (fun h => ?_)
      · have := ltq hx
        refine Jn1.mk (fun q => (0 ≤ q ∧ ¬ Okn E out x) ∨ (q < 0 ∧ Okn E out x)) ?_ (fun q hq => ?_)
        · intro _
          refine Lp1.ind (fun i => i ≤ ((F x).getD []).length ∧ ∀ m ∈ ((F x).getD []).take i, m ∈ out) (fun i => ((F x).getD []).length - i) (fun i hi => ?_) ⟨Nat.zero_le _, by simp⟩
          obtain ⟨hi, hin⟩ := hi
          refine Cnd.mk (fun h m hmm => ?_) (fun h => ?_)
          · have := ltq hmm
            refine Cnd.mk (fun h1 => ⟨⟨by omega, fun m' hm' => ?_⟩, by omega⟩) (fun h1 => .inl ⟨by omega, fun ho => ?_⟩)
            · rw [tk1 hmm] at hm'
              rcases List.mem_append.1 hm' with h2 | h2
              · exact hin m' h2
              · rw [List.mem_singleton.1 h2]; exact (hG m).1 h1
            · have hme := List.mem_of_getElem? hmm
              rw [ht x] at hme
              obtain ⟨e, he, h2, h3⟩ := mem_nd.1 hme
              exact h1 ((hG m).2 (h3 ▸ ho e he h2))
          · have h2 : i = ((F x).getD []).length := by omega
            subst h2; rw [List.take_length] at hin
            exact .inr ⟨by omega, fun e he hex => hin e.2 (by rw [ht x]; exact mem_nd.2 ⟨e, he, hex, rfl⟩)⟩
        · rcases hq with ⟨hq, hb⟩ | ⟨hq, hb⟩
          · refine Cnd.yes hq ⟨⟨by omega, fun y hy => ?_⟩, by omega⟩
            rw [tk1 hx] at hy
            rcases List.mem_append.1 hy with h2 | h2
            · exact hno y h2
            · rw [List.mem_singleton.1 h2]; exact hb
          · exact Cnd.no (by omega) (.inr ⟨k, x, rfl, hx, hb, hno⟩)
      · have h2 : k = left.length := by omega
        subst h2; rw [List.take_length] at hno
        exact .inl ⟨by omega, hno⟩
    · rcases hr with ⟨hr, hno⟩ | ⟨j, x, rfl, hx, hok, hno⟩
      · exact Cnd.yes hr (.inr (.inr ⟨hnd, hall, .inl ⟨out, hg, by omega, fun x hx => hno x ((hm x).2 ⟨hx.1, hx.2.1⟩) hx.2.2, rfl, rfl⟩⟩))
      · refine Cnd.no (by omega) ?_
        have hj := ltq hx
        have hxl := (hm x).1 (List.mem_of_getElem? hx)
        obtain ⟨d1, d2⟩ := asc_del ha hx
        have hdl : (left.take j ++ left.drop (j + 1)).length = left.length - 1 := by simp; omega
        refine ⟨j, rfl, x, hx, by unfold Sml; simp; omega, j, rfl, x, hx, InI.mk (by omega) (by omega), j, rfl, by omega, by omega, by unfold Sml; omega, ⟨?_, d1, fun y => ?_, fun y => ?_, ?_⟩, by omega⟩
        · refine hg.snoc ⟨⟨hxl.1, hxl.2, hok⟩, fun y hy hyx => ?_⟩
          have hyl := (hm y).2 ⟨hy.1, hy.2.1⟩
          obtain ⟨i, hi⟩ := List.mem_iff_getElem?.1 hyl
          rcases Nat.lt_trichotomy i j with h1 | h1 | h1
          · exact hno y (List.mem_iff_getElem?.2 ⟨i, by rw [List.getElem?_take, if_pos h1]; exact hi⟩) hy.2.2
          · subst h1; rw [hx] at hi; cases hi; exact blt_irrefl _ hyx
          · exact blt_asymm hyx (asc_at ha hx hi h1)
        · rw [d2, hm]; simp
          exact ⟨fun ⟨⟨a, b⟩, c⟩ => ⟨a, b, c⟩, fun ⟨a, b, c⟩ => ⟨⟨a, b⟩, c⟩⟩
        · by_cases hy : y = x
          · subst hy; simp [put]
          · simp [put, hy, hG]
        · rw [hdl]; simp; omega
end Go.Fl
