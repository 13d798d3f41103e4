/- Functions of identities do what is specified: their plain meanings are proved. Conditions: those in the statements. -/
import Derived.Test.YtehmnkholidanaaPuA
import Derived.Test.YtehmnkholidanaaPuB
import Derived.Test.YtehmnkholidanaaIdPath
namespace Go.Fl
open Lk

theorem Cnd.mk {c A B : Prop} (h : c → A) (k : ¬ c → B) : Cnd c A B := ⟨h, k⟩
theorem tk1 {α : Type} {l : List α} {n : Nat} {e : α} (h : l[n]? = some e) : l.take (n + 1) = l.take n ++ [e] := by
  rw [List.take_add_one, h]; rfl
theorem ltq {α : Type} {l : List α} {k : Nat} {x : α} (h : l[k]? = some x) : k < l.length := (List.getElem?_eq_some_iff.1 h).1

theorem Has_ok (l : List ByteArray) (s : ByteArray) : P_ref1_Has l s (fun r => (r = true ↔ s ∈ l)) := by
  unfold P_ref1_Has
  refine Lp1.ind (fun i => i ≤ l.length ∧ s ∉ l.take i) (fun i => l.length - i) (fun i hi => ?_) ⟨Nat.zero_le _, by simp⟩
  obtain ⟨hi, hno⟩ := hi
  intro _
  refine Cnd.mk (fun h => ?_) (fun h => ?_)
  · intro x hx
    refine Cnd.mk (fun h2 => ?_) (fun h2 => ?_)
    · subst h2; simp [List.mem_of_getElem? hx]
    · have := ltq hx
      refine ⟨⟨by omega, ?_⟩, by omega⟩
      rw [tk1 hx]; simp [hno]; exact fun e => h2 e.symm
  · have : i = l.length := by omega
    subst this; simp at hno; simp [hno]
theorem Same_ok (a b : List ByteArray) : P_ref1_Same a b (fun r => (r = true ↔ a = b)) := by
  unfold P_ref1_Same
  intro _ _
  refine Cnd.mk (fun hl => ?_) (fun hl => ?_)
  · refine Lp1.ind (fun i => i ≤ a.length ∧ a.take i = b.take i) (fun i => a.length - i) (fun i hi => ?_) ⟨Nat.zero_le _, by simp⟩
    obtain ⟨hi, he⟩ := hi
    refine Cnd.mk (fun h => ?_) (fun h => ?_)
    · intro x hx
      have hlt := ltq hx
      obtain ⟨y, hy⟩ : ∃ y, b[i]? = some y := ⟨_, List.getElem?_eq_getElem (by omega)⟩
      refine ⟨y, hy, Cnd.mk (fun h2 => ?_) (fun h2 => ?_)⟩
      · subst h2
        exact ⟨⟨by omega, by rw [tk1 hx, tk1 hy, he]⟩, by omega⟩
      · simp
        intro e; subst e
        rw [hx] at hy; exact h2 (Option.some.inj hy)
    · have h1 : i = a.length := by omega
      subst h1
      have h2 : a.length = b.length := by omega
      rw [List.take_length, h2, List.take_length] at he
      simp [he]
  · simp; intro e; subst e; exact hl rfl
theorem SameLinks_ok (a b : List L3) : P_ref26_SameLinks a b (fun r => (r = true ↔ a = b)) := by
  unfold P_ref26_SameLinks
  intro _ _
  refine Cnd.mk (fun hl => ?_) (fun hl => ?_)
  · refine Lp1.ind (fun i => i ≤ a.length ∧ a.take i = b.take i) (fun i => a.length - i) (fun i hi => ?_) ⟨Nat.zero_le _, by simp⟩
    obtain ⟨hi, he⟩ := hi
    refine Cnd.mk (fun h => ?_) (fun h => ?_)
    · intro x hx
      have hlt := ltq hx
      obtain ⟨y, hy⟩ : ∃ y, b[i]? = some y := ⟨_, List.getElem?_eq_getElem (by omega)⟩
      refine ⟨y, hy, Cnd.mk (fun h2 => ?_) (fun h2 => ?_)⟩
      · obtain ⟨x1, x2, x3⟩ := x
        obtain ⟨y1, y2, y3⟩ := y
        obtain ⟨rfl, rfl, rfl⟩ := h2
        exact ⟨⟨by omega, by rw [tk1 hx, tk1 hy, he]⟩, by omega⟩
      · simp
        intro e; subst e
        rw [hx] at hy
        cases hy
        exact h2 ⟨rfl, rfl, rfl⟩
    · have h1 : i = a.length := by omega
      subst h1
      have h2 : a.length = b.length := by omega
      rw [List.take_length, h2, List.take_length] at he
      simp [he]
  · simp; intro e; subst e; exact hl rfl

theorem distance_ok (l : List L3) (a b : ByteArray) (hlen : l.length ≤ 1000) : P_ref26_distance l a b (fun r => (∃ n : Nat, r = (n : Int) ∧ IsDist l a b n) ∨ (r = -1 ∧ ¬ Conn l a b)) := by
  unfold P_ref26_distance
  refine Lp2.ind (fun reached n => Ball l a n reached ∧ n < reached.length ∧ ∀ m, m < n → ¬ Wk l a b m) (fun reached _ => 2 * l.length + 2 - reached.length) (fun reached n hi => ?_) ⟨ball0 l a, by simp, fun m hm => by omega⟩
  obtain ⟨hb, hn, hno⟩ := hi
  have hrl := Ball.len (l := l) (a := a) hb.1 hb.conn
  refine Jn1.mk _ (Has_ok reached b) (fun r hr => ?_)
  refine Cnd.mk (fun h => ?_) (fun h => ?_)
  · exact .inl ⟨n, rfl, hb.dist (hr.1 h) hno⟩
  · have hbn : b ∉ reached := fun hm => h (hr.2 hm)
    refine ⟨by unfold Sml; omega, ?_⟩
    refine Lp2.ind (fun more i => i ≤ l.length ∧ More l a n reached more i) (fun _ i => l.length - i) (fun more i hi => ?_) ⟨Nat.zero_le _, more0 hb⟩
    obtain ⟨hil, hm⟩ := hi
    have hml := Ball.len (l := l) (a := a) hm.nodup hm.conn
    intro _
    refine Cnd.mk (fun h => ?_) (fun h => ?_)
    · refine Jn1.mk (fun m3 => More l a n reached m3 i ∧ ∀ x, l[i]? = some x → x.1 ∈ reached → x.2.1 ∈ m3) ?_ (fun m3 hm3 => ?_)
      · intro x hx
        have hxm := List.mem_of_getElem? hx
        refine Jn1.mk _ (Has_ok reached x.1) (fun r hr => ?_)
        refine Cnd.mk (fun h => ?_) (fun h => ?_)
        · refine Jn1.mk _ (Has_ok more x.2.1) (fun r2 hr2 => ?_)
          refine Cnd.mk (fun h2 => ?_) (fun h2 => ?_)
          · exact ⟨hm, fun x' hx' _ => by rw [hx] at hx'; cases hx'; exact hr2.1 h2⟩
          · refine ⟨by unfold Sml; simp; omega, hm.add hb hxm (.inl ⟨rfl, rfl⟩) (hr.1 h) (fun hm => h2 (hr2.2 hm)), fun x' hx' _ => by rw [hx] at hx'; cases hx'; simp⟩
        · exact ⟨hm, fun x' hx' hm' => by rw [hx] at hx'; cases hx'; exact absurd (hr.2 hm') h⟩
      · obtain ⟨hm3, hin⟩ := hm3
        have hml3 := Ball.len (l := l) (a := a) hm3.nodup hm3.conn
        intro x hx
        have hxm := List.mem_of_getElem? hx
        have hlt := ltq hx
        refine Jn1.mk _ (Has_ok reached x.2.1) (fun r hr => ?_)
        refine Cnd.mk (fun h => ?_) (fun h => ?_)
        · refine Jn1.mk _ (Has_ok m3 x.1) (fun r2 hr2 => ?_)
          refine Cnd.mk (fun h2 => ?_) (fun h2 => ?_)
          · exact ⟨⟨by omega, hm3.step hx (hin x hx) (fun _ => hr2.1 h2)⟩, by omega⟩
          · refine ⟨by unfold Sml; simp; omega, ⟨by omega, ?_⟩, by omega⟩
            refine (hm3.add hb hxm (.inr ⟨rfl, rfl⟩) (hr.1 h) (fun hm => h2 (hr2.2 hm))).step hx (fun h => by simp [hin x hx h]) (fun _ => by simp)
        · exact ⟨⟨by omega, hm3.step hx (hin x hx) (fun h' => absurd (hr.2 h') h)⟩, by omega⟩
    · have hil : i = l.length := by omega
      subst hil
      intro _ _
      refine Cnd.mk (fun h => ?_) (fun h => ?_)
      · exact .inr ⟨rfl, hm.stop hb (by omega) hbn⟩
      · have hg := hm.grows
        refine ⟨InI.mk (by omega) (by omega), ⟨⟨hm.ball hb, by omega, hb.not hbn⟩, by omega⟩⟩

/-- What both Paths return. -/
def PathIs (l : List L3) (a b : ByteArray) (p : List L3) (ok : Bool) : Prop := (ok = true ↔ Conn l a b) ∧ (ok = true → Gp l b a p) ∧ (ok = false → p = [])
theorem dist_le {l : List L3} {x b : ByteArray} : ∀ {n : Nat}, IsDist l x b n → ∃ vs : List ByteArray, vs.Nodup ∧ vs.length = n + 1 ∧ (∀ v ∈ vs, Conn l x v) ∧ ∀ v ∈ vs, ∃ m, m ≤ n ∧ IsDist l v b m := by
  intro n
  induction n generalizing x with
  | zero => intro h; exact ⟨[x], by simp, by simp, by simpa using Conn.refl l x, by simpa using h⟩
  | succ n ih =>
    intro h
    obtain ⟨e, he, y, ho, hy⟩ := h.next
    obtain ⟨vs, h1, h2, h3, h4⟩ := ih hy
    refine ⟨x :: vs, ?_, by simp [h2], fun v hv => ?_, fun v hv => ?_⟩
    · refine List.nodup_cons.2 ⟨fun hx => ?_, h1⟩
      obtain ⟨m, hm, hd⟩ := h4 x hx
      have := hd.unique h
      omega
    · rcases List.mem_cons.1 hv with rfl | hv
      · exact Conn.refl _ _
      · exact (Conn.link he (oth_joins ho)).trans (h3 v hv)
    · rcases List.mem_cons.1 hv with rfl | hv
      · exact ⟨n + 1, Nat.le_refl _, h⟩
      · obtain ⟨m, hm, hd⟩ := h4 v hv
        exact ⟨m, by omega, hd⟩
theorem dist_bound {l : List L3} {x b : ByteArray} {n : Nat} (h : IsDist l x b n) : n ≤ 2 * l.length := by
  obtain ⟨vs, h1, h2, h3, _⟩ := dist_le h
  have := Ball.len h1 h3
  omega

theorem refPath_ok (l : List L3) (a b : ByteArray) (hlen : l.length ≤ 1000) : P_ref26_Path l a b (PathIs l a b) := by
  unfold P_ref26_Path
  refine Jn1.mk _ (distance_ok l a b hlen) (fun r hr => ?_)
  refine Cnd.mk (fun h => ?_) (fun h => ?_)
  · rcases hr with ⟨n, rfl, _⟩ | ⟨rfl, hc⟩
    · omega
    · exact ⟨by simp [hc], by simp, by simp⟩
  · obtain ⟨n, rfl, hd⟩ : ∃ n : Nat, r = (n : Int) ∧ IsDist l a b n := by
      rcases hr with hr | ⟨rfl, _⟩
      · exact hr
      · omega
    refine Lp3.ind (fun x k out => ∃ m : Nat, k = (m : Int) ∧ IsDist l x b m ∧ out.length + m = n ∧ ∀ p, Gp l b x p → Gp l b a (out ++ p)) (fun _ k _ => k.toNat) (fun x k out hi => ?_) ⟨n, rfl, hd, by simp, by simp⟩
    obtain ⟨m, rfl, hdx, hlo, hp⟩ := hi
    have hnb := dist_bound hd
    refine Cnd.mk (fun h => ?_) (fun h => ?_)
    · obtain ⟨m, rfl⟩ : ∃ q, m = q + 1 := ⟨m - 1, by omega⟩
      refine Lp3.ind (fun x' out' i => x' = x ∧ out' = out ∧ i ≤ l.length ∧ ∀ j, j < i → ∀ e', l[j]? = some e' → ∀ y', oth e' x = some y' → ¬ IsDist l y' b m) (fun _ _ i => l.length - i) (fun x' out' i hi => ?_) ⟨rfl, rfl, Nat.zero_le _, fun j hj => by omega⟩
      obtain ⟨rfl, rfl, hil, hno⟩ := hi
      intro _
      refine Cnd.mk (fun h => ?_) (fun h => ?_)
      · intro e he
        have hlt := ltq he
        refine Jn2.mk (fun y js => (js = true ∧ oth e x' = some y) ∨ (js = false ∧ oth e x' = none)) ?_ (fun y js hy => ?_)
        · refine Cnd.mk (fun h => ?_) (fun h => ?_)
          · exact .inl ⟨by simp [h], by unfold oth; rw [if_pos h.symm]⟩
          · by_cases h2 : e.2.1 = x'
            · exact .inl ⟨by simp [h2], by unfold oth; rw [if_neg (fun e => h e.symm), if_pos h2.symm]⟩
            · exact .inr ⟨by simp [h2], by unfold oth; rw [if_neg (fun e => h e.symm), if_neg (fun e => h2 e.symm)]⟩
        · refine Cnd.mk (fun h => ?_) (fun h => ?_)
          · have ho : oth e x' = some y := by
              rcases hy with hy | ⟨hy, _⟩
              · exact hy.2
              · rw [h] at hy; cases hy
            refine Jn1.mk _ (distance_ok l y b hlen) (fun r hr => ?_)
            refine ⟨InI.mk (by omega) (by omega), Cnd.mk (fun h2 => ?_) (fun h2 => ?_)⟩
            · have hdy : IsDist l y b m := by
                rcases hr with ⟨q, rfl, hq⟩ | ⟨rfl, _⟩
                · have : q = m := by omega
                  subst this; exact hq
                · omega
              refine ⟨by unfold Sml; simp; omega, InI.mk (by omega) (by omega), ⟨m, by omega, hdy, by simp; omega, fun p hp' => ?_⟩, by omega⟩
              rw [List.append_assoc]
              exact hp _ (.step he ho hdx hdy hno hp')
            · refine ⟨⟨rfl, rfl, by omega, fun j hj e' he' y' ho' hd' => ?_⟩, by omega⟩
              by_cases hji : j = i
              · subst hji
                rw [he] at he'; cases he'
                rw [ho] at ho'; cases ho'
                rcases hr with ⟨q, rfl, hq⟩ | ⟨rfl, hq⟩
                · have := hq.unique hd'; omega
                · exact hq hd'.1.conn
              · exact hno j (by omega) e' he' y' ho' hd'
          · have ho : oth e x' = none := by
              rcases hy with ⟨hy, _⟩ | hy
              · exact absurd hy h
              · exact hy.2
            refine ⟨⟨rfl, rfl, by omega, fun j hj e' he' y' ho' => ?_⟩, by omega⟩
            by_cases hji : j = i
            · subst hji
              rw [he] at he'; cases he'
              rw [ho] at ho'; cases ho'
            · exact hno j (by omega) e' he' y' ho'
      · exfalso
        obtain ⟨e, he, y, ho, hy⟩ := hdx.next
        obtain ⟨j, hj⟩ := List.mem_iff_getElem?.1 he
        have := ltq hj
        exact hno j (by omega) e hj y ho hy
    · have : m = 0 := by omega
      subst this
      have hxb := IsDist.zero.1 hdx
      subst hxb
      have := hp [] .done
      rw [List.append_nil] at this
      exact ⟨by simp [hd.1.conn], fun _ => this, by simp⟩

theorem other_ok (e : L3) (x : ByteArray) : P_identity_other e x (fun y ok => (ok = true ∧ oth e x = some y) ∨ (ok = false ∧ oth e x = none)) := by
  unfold P_identity_other
  refine Cnd.mk (fun h => ?_) (fun h => ?_)
  · exact .inl ⟨rfl, by unfold oth; rw [if_pos h]⟩
  · refine Cnd.mk (fun h2 => ?_) (fun h2 => ?_)
    · exact .inl ⟨rfl, by unfold oth; rw [if_neg h, if_pos h2]⟩
    · exact .inr ⟨rfl, by unfold oth; rw [if_neg h, if_neg h2]⟩

/-- The map of the program and that of the plain law. -/
def Far (F : ByteArray → Option Int) (G : ByteArray → Option Nat) : Prop := ∀ x, F x = (G x).map (fun n => (n : Int))
theorem Far.put {F : ByteArray → Option Int} {G : ByteArray → Option Nat} (h : Far F G) (y : ByteArray) (n : Nat) : Far (put F y (n : Int)) (fun q => if q = y then some n else G q) := by
  intro x
  unfold Fl.put
  by_cases hx : x = y <;> simp [hx, h x]
theorem Far.some {F : ByteArray → Option Int} {G : ByteArray → Option Nat} (h : Far F G) {x : ByteArray} {n : Nat} (hx : G x = some n) : (F x).getD 0 = (n : Int) := by rw [h x, hx]; rfl
theorem Far.isSome {F : ByteArray → Option Int} {G : ByteArray → Option Nat} (h : Far F G) (x : ByteArray) : (F x).isSome = (G x).isSome := by rw [h x]; cases G x <;> rfl

theorem distances_ok (l : List L3) (b : ByteArray) (hlen : l.length ≤ 1000) : P_identity_distances l b (fun F => ∃ G, Far F G ∧ ∀ x n, G x = some n ↔ IsDist l x b n) := by
  unfold P_identity_distances
  refine Lp2.ind (fun level F => ∃ (G : ByteArray → Option Nat) (d : Nat) (ks : List ByteArray), Far F G ∧ Lev l b G d [] ks ∧ (∀ x, x ∈ level ↔ IsDist l x b d) ∧ level.length ≤ 2001)
    (fun level F => 2 * (2 * l.length + 2 - (Classical.epsilon (fun n : Nat => ∃ ks : List ByteArray, ks.Nodup ∧ (∀ x, x ∈ ks ↔ (F x).isSome = true) ∧ ks.length = n))) + (if level = [] then 0 else 1)) (fun level F hi => ?_) ⟨_, 0, [b], fun x => ?_, lev_start l b, fun x => ?_, by simp⟩
  rotate_left
  · unfold Fl.put
    by_cases hx : x = b <;> simp [hx]
  · simp [IsDist.zero]
  obtain ⟨G, d, ks, hF, hlev, hlv, hll⟩ := hi
  have meas : ∀ {F : ByteArray → Option Int} {ks : List ByteArray}, ks.Nodup → (∀ x, x ∈ ks ↔ (F x).isSome = true) → (Classical.epsilon (fun n : Nat => ∃ ks : List ByteArray, ks.Nodup ∧ (∀ x, x ∈ ks ↔ (F x).isSome = true) ∧ ks.length = n)) = ks.length := by
    intro F ks hn hk
    obtain ⟨ks', h1, h2, h3⟩ := Classical.epsilon_spec (p := fun n : Nat => ∃ ks : List ByteArray, ks.Nodup ∧ (∀ x, x ∈ ks ↔ (F x).isSome = true) ∧ ks.length = n) ⟨_, ks, hn, hk, rfl⟩
    rw [← h3]
    have e1 := nodup_len h1 (zs := ks) fun y hy => (hk y).2 ((h2 y).1 hy)
    have e2 := nodup_len hn (zs := ks') fun y hy => (h2 y).2 ((hk y).1 hy)
    omega
  have hkF : ∀ x, x ∈ ks ↔ (F x).isSome = true := fun x => by rw [hF.isSome, hlev.keys.2]
  rw [meas hlev.keys.1 hkF]
  intro _
  refine Cnd.mk (fun h => ?_) (fun h => ?_)
  · have hne : level ≠ [] := fun e => by subst e; simp at h
    rw [if_neg hne]
    refine Lp3.ind (fun next k F' => ∃ (G' : ByteArray → Option Nat) (ks' : List ByteArray), Far F' G' ∧ Lev l b G' d next ks' ∧ Seen l G' level k 0 ∧ k ≤ level.length ∧ ks'.length = ks.length + next.length) (fun _ k _ => level.length - k) (fun next k F' hi => ?_)
      ⟨G, ks, hF, hlev, fun k m x e y _ _ _ hlt => by omega, Nat.zero_le _, by simp⟩
    obtain ⟨G', ks', hF', hlev', hseen, hk, hkl⟩ := hi
    refine Cnd.mk (fun h => ?_) (fun h => ?_)
    · intro x hx
      have hxlt := ltq hx
      have hdx : IsDist l x b d := (hlv x).1 (List.mem_of_getElem? hx)
      intro _
      refine Lp3.ind (fun next2 j F2 => ∃ (G2 : ByteArray → Option Nat) (ks2 : List ByteArray), Far F2 G2 ∧ Lev l b G2 d next2 ks2 ∧ Seen l G2 level k j ∧ j ≤ l.length ∧ ks2.length = ks.length + next2.length) (fun _ j _ => l.length - j) (fun next2 j F2 hi => ?_)
        ⟨G', ks', hF', hlev', hseen, Nat.zero_le _, hkl⟩
      obtain ⟨G2, ks2, hF2, hlev2, hseen2, hj, hkl2⟩ := hi
      have hk2l := lev_keys_len hlev2
      refine Cnd.mk (fun h => ?_) (fun h => ?_)
      · intro e he
        have hjlt := ltq he
        refine Jn2.mk _ (other_ok e x) (fun y ok hy => ?_)
        refine Cnd.mk (fun h => ?_) (fun h => ?_)
        · have ho : oth e x = some y := by
            rcases hy with hy | ⟨hy, _⟩
            · exact hy.2
            · rw [h] at hy; cases hy
          refine Cnd.mk (fun h2 => ?_) (fun h2 => ?_)
          · refine ⟨⟨G2, ks2, hF2, hlev2, hseen2.step hx he fun z hz => ?_, by omega, hkl2⟩, by omega⟩
            rw [ho] at hz; cases hz; rw [← hF2.isSome]; exact h2
          · have hGx : G2 x = some d := hlev2.all x d hdx (Nat.le_refl _)
            have hGy : G2 y = none := by
              rw [hF2.isSome] at h2
              cases hq : G2 y with
              | none => rfl
              | some q => rw [hq] at h2; simp at h2
            have hadd := hlev2.add (List.mem_of_getElem? he) hGx ho hGy
            have hal := lev_keys_len hadd
            have hdb := dist_bound hdx
            rw [List.length_append] at hal
            simp at hal
            rw [hF2.some hGx]
            refine ⟨InI.mk (by omega) (by omega), by unfold Sml; simp; omega, ⟨_, _, ?_, hadd, (hseen2.put y (d + 1)).step hx he fun z hz => ?_, by omega, by simp; omega⟩, by omega⟩
            · have := hF2.put y (d + 1)
              simpa using this
            · rw [ho] at hz; cases hz; simp
        · have ho : oth e x = none := by
            rcases hy with ⟨hy, _⟩ | hy
            · exact absurd hy h
            · exact hy.2
          refine ⟨⟨G2, ks2, hF2, hlev2, hseen2.step hx he fun z hz => ?_, by omega, hkl2⟩, by omega⟩
          rw [ho] at hz; cases hz
      · exact ⟨⟨G2, ks2, hF2, hlev2, hseen2.next (by omega), by omega, hkl2⟩, by omega⟩
    · have hk : k = level.length := by omega
      subst hk
      have hup := hlev'.up (fun x hx => (hlv x).2 hx) hseen
      have hnx := hlev'.next (fun x hx => (hlv x).2 hx) hseen
      have hkl' := lev_keys_len hlev'
      have hkF' : ∀ x, x ∈ ks' ↔ (F' x).isSome = true := fun x => by rw [hF'.isSome, hlev'.keys.2]
      refine ⟨⟨G', d + 1, ks', hF', hup, fun x => ⟨fun hx => ?_, fun hx => hnx.2 x hx⟩, by omega⟩, ?_⟩
      · exact (hlev'.sound x _ ((hlev'.new x).1 hx)).1
      · rw [meas hlev'.keys.1 hkF', hkl]
        by_cases hn : next = []
        · subst hn; simp
        · have : 0 < next.length := List.length_pos_iff.2 hn
          rw [if_neg hn]
          omega
  · have hne : level = [] := by
      cases level with
      | nil => rfl
      | cons y ys => exfalso; apply h; simp
    subst hne
    exact ⟨G, hF, hlev.done fun x hx => by have := (hlv x).2 hx; simp at this⟩

theorem idPath_ok (l : List L3) (a b : ByteArray) (hlen : l.length ≤ 1000) : P_identity_Path l a b (PathIs l a b) := by
  unfold P_identity_Path
  refine Jn1.mk _ (distances_ok l b hlen) (fun F hF => ?_)
  obtain ⟨G, hF, hG⟩ := hF
  refine Cnd.mk (fun h => ?_) (fun h => ?_)
  · rw [hF.isSome] at h
    obtain ⟨n, hn⟩ := Option.isSome_iff_exists.1 h
    have hd := (hG a n).1 hn
    have hnb := dist_bound hd
    refine Lp2.ind (fun x out => ∃ m : Nat, IsDist l x b m ∧ out.length + m = n ∧ ∀ p, Gp l b x p → Gp l b a (out ++ p)) (fun _ out => n - out.length) (fun x out hi => ?_) ⟨n, hd, by simp, by simp⟩
    obtain ⟨m, hdx, hlo, hp⟩ := hi
    refine Cnd.mk (fun h => ?_) (fun h => ?_)
    · subst h
      have := hp [] .done
      rw [List.append_nil] at this
      exact ⟨by simp [hd.1.conn], fun _ => this, by simp⟩
    · obtain ⟨m, rfl⟩ : ∃ q, m = q + 1 := by
        cases m with
        | zero => exact absurd (IsDist.zero.1 hdx) h
        | succ q => exact ⟨q, rfl⟩
      intro _
      refine Lp3.ind (fun x' out' i => x' = x ∧ out' = out ∧ i ≤ l.length ∧ ∀ j, j < i → ∀ e', l[j]? = some e' → ∀ y', oth e' x = some y' → ¬ IsDist l y' b m) (fun _ _ i => l.length - i) (fun x' out' i hi => ?_) ⟨rfl, rfl, Nat.zero_le _, fun j hj => by omega⟩
      obtain ⟨rfl, rfl, hil, hno⟩ := hi
      have hGx : G x' = some (m + 1) := (hG _ _).2 hdx
      refine Cnd.mk (fun h => ?_) (fun h => ?_)
      · intro e he
        have hlt := ltq he
        refine Jn2.mk _ (other_ok e x') (fun y ok hy => ?_)
        refine Cnd.mk (fun h => ?_) (fun h => ?_)
        · have ho : oth e x' = some y := by
            rcases hy with hy | ⟨hy, _⟩
            · exact hy.2
            · rw [h] at hy; cases hy
          have next : (¬ IsDist l y b m) → ((x' = x' ∧ out' = out' ∧ i + 1 ≤ l.length ∧ ∀ j, j < i + 1 → ∀ e', l[j]? = some e' → ∀ y', oth e' x' = some y' → ¬ IsDist l y' b m) ∧ l.length - (i + 1) < l.length - i) := fun hny => by
            refine ⟨⟨rfl, rfl, by omega, fun j hj e' he' y' ho' hd' => ?_⟩, by omega⟩
            by_cases hji : j = i
            · subst hji
              rw [he] at he'; cases he'
              rw [ho] at ho'; cases ho'
              exact hny hd'
            · exact hno j (by omega) e' he' y' ho' hd'
          rw [hF.isSome, hF.some hGx]
          refine Cnd.mk (fun h2 => ?_) (fun h2 => ?_)
          · obtain ⟨q, hq⟩ := Option.isSome_iff_exists.1 h2
            rw [hF.some hq]
            refine ⟨InI.mk (by omega) (by omega), Cnd.mk (fun h3 => ?_) (fun h3 => ?_)⟩
            · have : q = m := by omega
              subst this
              have hdy := (hG _ _).1 hq
              refine ⟨by unfold Sml; simp; omega, ⟨q, hdy, by simp; omega, fun p hp' => ?_⟩, by simp; omega⟩
              rw [List.append_assoc]
              exact hp _ (.step he ho hdx hdy hno hp')
            · refine next fun hdm => h3 ?_
              have := ((hG _ _).1 hq).unique hdm
              omega
          · refine next fun hdm => h2 ?_
            rw [(hG _ _).2 hdm]; rfl
        · have ho : oth e x' = none := by
            rcases hy with ⟨hy, _⟩ | hy
            · exact absurd hy h
            · exact hy.2
          refine ⟨⟨rfl, rfl, by omega, fun j hj e' he' y' ho' => ?_⟩, by omega⟩
          by_cases hji : j = i
          · subst hji
            rw [he] at he'; cases he'
            rw [ho] at ho'; cases ho'
          · exact hno j (by omega) e' he' y' ho'
      · exfalso
        obtain ⟨e, he, y, ho, hy⟩ := hdx.next
        obtain ⟨j, hj⟩ := List.mem_iff_getElem?.1 he
        have := ltq hj
        exact hno j (by omega) e hj y ho hy
  · refine ⟨?_, by simp, by simp⟩
    simp
    intro hc
    obtain ⟨n, hn⟩ := hc.dist
    rw [hF.isSome, (hG a n).2 hn] at h
    simp at h

theorem refRoot_ok (l : List L3) (x : ByteArray) (hlen : l.length ≤ 1000) : P_ref26_Root l x (Least l x) := by
  unfold P_ref26_Root
  refine Jn1.mk (IsMem l x) ⟨hlen, fun ys h => h⟩ (fun ys hys => ?_)
  have hx := (hys.2 x).2 (Conn.refl l x)
  cases ys with
  | nil => cases hx
  | cons y ys => exact ⟨y, rfl, hys.head rfl⟩
theorem refSame_ok (l : List L3) (x y : ByteArray) (hlen : l.length ≤ 1000) : P_ref26_Same l x y (fun r => (r = true ↔ Conn l x y)) := by
  unfold P_ref26_Same
  refine Jn1.mk (IsMem l x) ⟨hlen, fun ys h => h⟩ (fun ys hys => ?_)
  exact Jn1.mk _ (Has_ok ys y) (fun r hr => hr.trans (hys.2 y))
theorem refForest_ok (l : List L3) (hlen : l.length ≤ 1000) : P_ref26_Forest l (fun r => r = fo l l.length) := by
  unfold P_ref26_Forest
  refine Lp2.ind (fun out i => i ≤ l.length ∧ out = fo l i) (fun _ i => l.length - i) (fun out i hi => ?_) ⟨Nat.zero_le _, by simp [fo]⟩
  obtain ⟨hi, rfl⟩ := hi
  have hfl := fo_len l i
  intro _
  refine Cnd.mk (fun h => ?_) (fun h => ?_)
  · intro e he
    have hlt := ltq he
    refine Jn1.mk _ (refSame_ok _ _ _ (by omega)) (fun r hr => ?_)
    rw [fo_conn] at hr
    refine Cnd.mk (fun h2 => ?_) (fun h2 => ?_)
    · exact ⟨⟨by omega, (fo_out he (hr.1 h2)).symm⟩, by omega⟩
    · exact ⟨by unfold Sml; simp; omega, ⟨by omega, (fo_in he (fun hc => h2 (hr.2 hc))).symm⟩, by omega⟩
  · have : i = l.length := by omega
    subst this; rfl
end Go.Fl
