/- The laws of identities hold by their plain meanings. Conditions: those in the statements. -/
import Derived.Test.YtehmnkholidanaaIdProof
import Derived.Test.YtehmnkholidanaaPuLGrows
import Derived.Test.YtehmnkholidanaaPuLPaths
import Derived.Test.YtehmnkholidanaaPuLParts
import Derived.Test.YtehmnkholidanaaPuLOrder
import Derived.Test.YtehmnkholidanaaPuLForests
import Derived.Test.YtehmnkholidanaaPuLTimes
import Derived.Test.YtehmnkholidanaaPuLTells
import Derived.Test.YtehmnkholidanaaPuLAny
namespace Go.Fl
open Lk

/-! ### The number of roots -/
theorem good_ex (l : List L3) : ∃ F, Good l F := by
  have key : ∀ n, ∃ F, Good (l.take n) F := by
    intro n
    induction n with
    | zero => exact ⟨_, good_nil⟩
    | succ n ih =>
      obtain ⟨F, hF⟩ := ih
      rcases h : l[n]? with _ | e
      · have := List.getElem?_eq_none_iff.1 h
        rw [List.take_of_length_le (show l.length ≤ n + 1 by omega), ← List.take_of_length_le (show l.length ≤ n by omega)]
        exact ⟨F, hF⟩
      · rw [tk1 h]
        by_cases hc : Conn (l.take n) e.1 e.2.1
        · exact ⟨F, hF.same hc⟩
        · obtain ⟨x, x1, x2, _⟩ := hF.root _ e.1 (Nat.le_refl _)
          obtain ⟨y, y1, y2, _⟩ := hF.root _ e.2.1 (Nat.le_refl _)
          by_cases hb : blt x y
          · exact ⟨_, hF.join x1 y1 x2 y2 hb (.inr ⟨rfl, rfl⟩)⟩
          · have hne : x ≠ y := fun he => hc (x1.trans (he ▸ y1.symm))
            have hb2 : blt y x := Classical.byContradiction fun h2 => hne (blt_tri hb h2)
            exact ⟨_, hF.join x1 y1 x2 y2 hb2 (.inl ⟨rfl, rfl⟩)⟩
  obtain ⟨F, hF⟩ := key l.length
  rw [List.take_length] at hF
  exact ⟨F, hF⟩
theorem least_ex (l : List L3) (x : ByteArray) : ∃ r, Least l x r := by
  obtain ⟨F, hF⟩ := good_ex l
  obtain ⟨r, h1, h2, _⟩ := hF.root _ x (Nat.le_refl _)
  exact ⟨r, hF.least h1 h2⟩
def IsRoot (l : List L3) (x : ByteArray) : Prop := ∀ y, Conn l x y → ¬ blt y x
theorem IsRoot.eq {l : List L3} {x y r : ByteArray} (h : IsRoot l x) (hr : Least l y r) (hc : Conn l y x) : x = r :=
  blt_tri (fun hlt => hr.2 x hc hlt) (fun hlt => h r (hc.symm.trans hr.1) hlt)
theorem root_step {l : List L3} {e : L3} {g s : ByteArray} (hl1 : ∃ u v, ((u = e.1 ∧ v = e.2.1) ∨ (u = e.2.1 ∧ v = e.1)) ∧ Least l u g ∧ Least l v s) (hlt : blt s g) (x : ByteArray) : IsRoot (l ++ [e]) x ↔ (IsRoot l x ∧ x ≠ g) := by
  obtain ⟨u, v, huv, hg, hs⟩ := hl1
  have hm : ∀ {a b}, Conn l a b → Conn (l ++ [e]) a b := fun h => h.mono fun k hk => by simp [hk]
  have hin : Conn (l ++ [e]) u v := by
    rcases huv with ⟨rfl, rfl⟩ | ⟨rfl, rfl⟩
    · exact Conn.link (by simp) (.inl ⟨rfl, rfl⟩)
    · exact Conn.link (by simp) (.inr ⟨rfl, rfl⟩)
  constructor
  · intro h
    refine ⟨fun y hy => h y (hm hy), fun he => ?_⟩
    subst he
    exact h s ((hm hg.1).symm.trans (hin.trans (hm hs.1))) hlt
  · rintro ⟨h, hne⟩ y hy hyx
    have hsn : Conn l x y ∨ (Conn l x u ∧ Conn l v y) ∨ (Conn l x v ∧ Conn l u y) := by
      rcases (conn_snoc l e x y).1 hy with h1 | h1 | h1
      · exact .inl h1
      · rcases huv with ⟨rfl, rfl⟩ | ⟨rfl, rfl⟩
        · exact .inr (.inl h1)
        · exact .inr (.inr h1)
      · rcases huv with ⟨rfl, rfl⟩ | ⟨rfl, rfl⟩
        · exact .inr (.inr h1)
        · exact .inr (.inl h1)
    rcases hsn with h1 | ⟨h1, h2⟩ | ⟨h1, h2⟩
    · exact h y h1 hyx
    · exact hne (h.eq hg h1.symm)
    · have hxs := h.eq hs h1.symm
      subst hxs
      exact hg.2 y h2 (blt_trans hyx hlt)
theorem filter_ne {L : List ByteArray} (hn : L.Nodup) {p : ByteArray → Bool} {g : ByteArray} (hg : g ∈ L) (hp : p g = true) : (L.filter p).length = (L.filter fun x => p x && decide (x ≠ g)).length + 1 := by
  induction L with
  | nil => cases hg
  | cons a L ih =>
    obtain ⟨h1, h2⟩ := List.nodup_cons.1 hn
    rcases List.mem_cons.1 hg with rfl | hg
    · have e : (L.filter fun x => p x && decide (x ≠ g)) = L.filter p := List.filter_congr fun x hx => by
        have : x ≠ g := fun e => h1 (e ▸ hx)
        simp [this]
      simp only [List.filter_cons, hp, if_true, List.length_cons, e]
      simp
    · have := ih h2 hg
      have hag : a ≠ g := fun e => h1 (e ▸ hg)
      by_cases hpa : p a = true
      · simp [hpa, hag] at this ⊢; omega
      · simp [hpa] at this ⊢; omega
open Classical in
theorem roots_count (l : List L3) (hl : ∀ e ∈ l, e.1 ∈ ids6' ∧ e.2.1 ∈ ids6') : ∀ n, (fo l n).length + (ids6'.filter fun x => decide (IsRoot (l.take n) x)).length = 6 := by
  intro n
  induction n with
  | zero =>
    have : (ids6'.filter fun x => decide (IsRoot (l.take 0) x)) = ids6' := List.filter_eq_self.2 fun x _ => by
      simp only [decide_eq_true_eq]
      intro y hy hyx
      have : x = y := hy (fun z => x = z) rfl fun e he => by simp at he
      subst this; exact blt_irrefl _ hyx
    rw [this]
    simp [fo, ids6']
  | succ n ih =>
    rcases h : l[n]? with _ | e
    · have hn := List.getElem?_eq_none_iff.1 h
      have e1 : fo l (n + 1) = fo l n := by rw [fo, h]
      rw [e1, List.take_of_length_le (show l.length ≤ n + 1 by omega)]
      rwa [List.take_of_length_le (show l.length ≤ n by omega)] at ih
    · rw [tk1 h]
      by_cases hc : Conn (l.take n) e.1 e.2.1
      · rw [fo_out h hc]
        have : (ids6'.filter fun x => decide (IsRoot (l.take n ++ [e]) x)) = ids6'.filter fun x => decide (IsRoot (l.take n) x) := List.filter_congr fun x _ => by
          congr 1
          refine propext ⟨fun hr y hy => hr y (hy.mono fun k hk => by simp [hk]), fun hr y hy => hr y ?_⟩
          rcases (conn_snoc _ e x y).1 hy with h1 | ⟨h1, h2⟩ | ⟨h1, h2⟩
          · exact h1
          · exact h1.trans (hc.trans h2)
          · exact h1.trans (hc.symm.trans h2)
        rw [this]; exact ih
      · rw [fo_in h hc]
        obtain ⟨x, hx⟩ := least_ex (l.take n) e.1
        obtain ⟨y, hy⟩ := least_ex (l.take n) e.2.1
        have hne : x ≠ y := fun he => hc (hx.1.trans (he ▸ hy.1.symm))
        have hmem : ∀ {u r}, u ∈ ids6' → Conn (l.take n) u r → r ∈ ids6' := fun {u r} hu hr => by
          rcases hr.ids with rfl | h1
          · exact hu
          · obtain ⟨k, hk, hkr⟩ := List.mem_flatMap.1 h1
            have := hl k (List.mem_of_mem_take hk)
            simp at hkr
            rcases hkr with rfl | rfl
            · exact this.1
            · exact this.2
        have he := hl e (List.mem_of_getElem? h)
        have key : ∀ g s, (∃ u v, ((u = e.1 ∧ v = e.2.1) ∨ (u = e.2.1 ∧ v = e.1)) ∧ Least (l.take n) u g ∧ Least (l.take n) v s) → blt s g → g ∈ ids6' → IsRoot (l.take n) g →
            ((fo l n ++ [e]).length + (ids6'.filter fun x => decide (IsRoot (l.take n ++ [e]) x)).length = 6) := by
          intro g s huv hlt hg hgr
          have e1 : (ids6'.filter fun x => decide (IsRoot (l.take n ++ [e]) x)) = ids6'.filter fun x => decide (IsRoot (l.take n) x) && decide (x ≠ g) := List.filter_congr fun x _ => by
            rw [Bool.eq_iff_iff]
            simp only [Bool.and_eq_true, decide_eq_true_eq]
            exact root_step huv hlt x
          have e2 := filter_ne (L := ids6') (by decide) (p := fun x => decide (IsRoot (l.take n) x)) hg (by simpa using hgr)
          rw [e1]
          rw [e2] at ih
          simp
          simp at ih
          omega
        have rootOf : ∀ {u r}, Least (l.take n) u r → IsRoot (l.take n) r := fun {u r} h y hy => h.2 y (h.1.trans hy)
        by_cases hb : blt x y
        · exact key y x ⟨e.2.1, e.1, .inr ⟨rfl, rfl⟩, hy, hx⟩ hb (hmem he.2 hy.1) (rootOf hy)
        · have hb2 : blt y x := Classical.byContradiction fun h2 => hne (blt_tri hb h2)
          exact key x y ⟨e.1, e.2.1, .inl ⟨rfl, rfl⟩, hx, hy⟩ hb2 (hmem he.1 hx.1) (rootOf hx)
theorem fo_pre (L M : List L3) : ∀ k, k ≤ L.length → fo (L ++ M) k = fo L k := by
  intro k
  induction k with
  | zero => intro _; rfl
  | succ k ih =>
    intro hk
    have e1 : (L ++ M)[k]? = L[k]? := List.getElem?_append_left (by omega)
    have e2 : (L ++ M).take k = L.take k := by rw [List.take_append_of_le_length (by omega)]
    rw [fo, fo, e1, e2, ih (by omega)]
theorem fo_fo (l : List L3) : ∀ n, fo (fo l n) (fo l n).length = fo l n := by
  intro n
  induction n with
  | zero => rfl
  | succ n ih =>
    rcases h : l[n]? with _ | e
    · have e1 : fo l (n + 1) = fo l n := by rw [fo, h]
      rw [e1]; exact ih
    · by_cases hc : Conn (l.take n) e.1 e.2.1
      · rw [fo_out h hc]; exact ih
      · rw [fo_in h hc]
        have hq : (fo l n ++ [e])[(fo l n).length]? = some e := by simp
        have ht : (fo l n ++ [e]).take (fo l n).length = fo l n := by simp
        rw [List.length_append, List.length_singleton, fo_in hq (by rw [ht, fo_conn]; exact hc), fo_pre _ _ _ (Nat.le_refl _), ih]

/-! ### The example -/
theorem awake26_ok : P_law26_awake (fun r => r = true) := by
  unfold P_law26_awake
  generalize hL : [((⟨#[97]⟩ : ByteArray), (⟨#[98]⟩ : ByteArray), (0 : Int)), ((⟨#[98]⟩ : ByteArray), (⟨#[99]⟩ : ByteArray), (0 : Int))] = L
  have hlen : L.length ≤ 1000 := by rw [← hL]; simp
  have nab : (⟨#[97]⟩ : ByteArray) ≠ ⟨#[98]⟩ := by decide
  have nac : (⟨#[97]⟩ : ByteArray) ≠ ⟨#[99]⟩ := by decide
  have nbc : (⟨#[98]⟩ : ByteArray) ≠ ⟨#[99]⟩ := by decide
  have bab : blt (⟨#[97]⟩ : ByteArray) ⟨#[98]⟩ := by decide
  have bbc : blt (⟨#[98]⟩ : ByteArray) ⟨#[99]⟩ := by decide
  generalize ha : (⟨#[97]⟩ : ByteArray) = a at *
  generalize hb : (⟨#[98]⟩ : ByteArray) = b at *
  generalize hc : (⟨#[99]⟩ : ByteArray) = c at *
  have h0 : L[0]? = some (a, b, 0) := by rw [← hL]; rfl
  have h1 : L[1]? = some (b, c, 0) := by rw [← hL]; rfl
  have hin : ∀ e, e ∈ L ↔ e = (a, b, 0) ∨ e = (b, c, 0) := by intro e; rw [← hL]; simp
  have dc : IsDist L c c 0 := IsDist.zero.2 rfl
  have db : IsDist L b c 1 := ⟨.step ((hin _).2 (.inr rfl)) (.inl ⟨rfl, rfl⟩) .zero, fun m hm => by
    cases m with
    | zero => exact absurd (wk0 hm) nbc
    | succ m => omega⟩
  have da : IsDist L a c 2 := ⟨.step ((hin _).2 (.inl rfl)) (.inl ⟨rfl, rfl⟩) db.1, fun m hm => by
    match m, hm with
    | 0, hm => exact absurd (wk0 hm) nac
    | 1, hm =>
      obtain ⟨e, he, y, hj, hy⟩ := wk_succ hm
      have := wk0 hy
      subst this
      rcases (hin e).1 he with rfl | rfl
      · rcases hj with ⟨_, h⟩ | ⟨_, h⟩
        · exact absurd h nbc
        · exact absurd h.symm nab
      · rcases hj with ⟨h, _⟩ | ⟨_, h⟩
        · exact absurd h.symm nab
        · exact absurd h.symm nac
    | m + 2, _ => omega⟩
  have hgp : Gp L c a L := by
    have s2 : Gp L c b [(b, c, 0)] := .step (i := 1) (y := c) h1 (by simp [oth]) db dc (fun j hj e' he' y' ho hd => by
      have : j = 0 := by omega
      subst this
      rw [h0] at he'; cases he'
      have : y' = a := by simp [oth, nab.symm] at ho; exact ho.symm
      subst this
      have := IsDist.zero.1 hd
      exact nac this) .done
    have := Gp.step (l := L) (b := c) (i := 0) (e := (a, b, 0)) (x := a) (y := b) h0 (by simp [oth]) da db (fun j hj => by omega) s2
    rwa [show [(a, b, (0 : Int)), (b, c, (0 : Int))] = L from hL] at this
  have hab : Conn L a b := Conn.link ((hin _).2 (.inl rfl)) (.inl ⟨rfl, rfl⟩)
  have hbc : Conn L b c := Conn.link ((hin _).2 (.inr rfl)) (.inl ⟨rfl, rfl⟩)
  have hmem : IsMem L c [a, b, c] := by
    refine ⟨by simp only [Asc, List.pairwise_cons]; simp [bab, bbc, blt_trans bab bbc], fun y => ⟨fun hy => ?_, fun hy => ?_⟩⟩
    · simp at hy
      rcases hy with rfl | rfl | rfl
      · exact hbc.symm.trans hab.symm
      · exact hbc.symm
      · exact Conn.refl _ _
    · refine hy (fun y => y ∈ [a, b, c]) (by simp) fun e he u v hj _ => ?_
      rcases (hin e).1 he with rfl | rfl <;> rcases hj with ⟨h1, h2⟩ | ⟨h1, h2⟩ <;> simp at h1 h2 <;> subst h1 <;> subst h2 <;> simp
  refine Jn2.mk _ (idPath_ok L a c hlen) (fun p ok hp => ?_)
  have hok : ok = true := hp.1.2 (hab.trans hbc)
  have hpe := (hp.2.1 hok).unique hgp
  refine Jn1.mk (IsMem L c) ⟨hlen, fun ys h => h⟩ (fun ys hys => ?_)
  have hye := hys.unique hmem
  refine Jn1.mk _ (Same_ok ys [a, b, c]) (fun r hr => Cnd.mk (fun _ => Cnd.mk (fun _ => ?_) (fun h => absurd hok h)) (fun h => absurd (hr.2 hye) h))
  exact Jn1.mk _ (SameLinks_ok p L) (fun _ hr => hr.2 hpe)

/-! ### The laws -/
def Made (l : List L3) : Prop := l.length ≤ 30 ∧ ∀ e ∈ l, e.1 ∈ ids6' ∧ e.2.1 ∈ ids6'
theorem links_ok (l : List UInt8) (b : Bool) : P_data_Links l b Made := fun _ h1 h2 _ => ⟨h1, h2⟩
theorem ids6_len : ids6'.length = 6 := rfl
/-- The first lines of a law: the example holds, and the input is not too long. -/
theorem law_head {A B : Prop} {n : Int} {l : List UInt8} (hA : A) (hB : B) : Jn1 (fun (r : Bool) => Cnd (r = true) (∀ (_ : l.length ≤ 9223372036854775807), Cnd (n < ((l.length : Nat) : Int)) A B) (false = true)) P_law26_awake :=
  Jn1.mk _ awake26_ok (fun _ hr => Cnd.mk (fun _ _ => Cnd.mk (fun _ => hA) (fun _ => hB)) (fun h => absurd hr h))

open Classical in
theorem same_dec (l : List L3) (x y : ByteArray) : P_identity_Same l x y (fun r => r = decide (Conn l x y)) := fun r h => show r = decide (Conn l x y) by rw [Bool.eq_iff_iff]; simp [h]
open Classical in
theorem grows_ok (l : List UInt8) (a b : Int) (ha : 0 ≤ a) (ha' : a ≤ 255) (hb : 0 ≤ b) (hb' : b ≤ 255) : P_law26_IdentityGrows l a b (fun r => r = true) := by
  unfold P_law26_IdentityGrows
  refine law_head rfl ?_
  refine Jn1.mk _ (links_ok l true) (fun links hl => ?_)
  have hl1 := hl.1
  refine ⟨InI.mk (by omega) (by omega), ?_⟩
  refine Jn1.mk (fun _ => True) ⟨ha, fun _ _ => trivial⟩ (fun A _ => ?_)
  refine ⟨InI.mk (by omega) (by omega), ?_⟩
  refine Jn1.mk (fun _ => True) ⟨hb, fun _ _ => trivial⟩ (fun B _ => ?_)
  refine Jn1.mk (fun more => more = links ++ [(A, B, 90)]) ⟨by unfold Sml; omega, by unfold Sml; simp; omega, rfl⟩ (fun more hm => ?_)
  subst hm
  refine Jn1.mk (fun ids => ids = ids6') rfl (fun ids hids => ?_)
  subst hids
  refine Lp1.ind (fun i => i ≤ 6) (fun i => 6 - i) (fun i hi => ?_) (by omega)
  intro _
  refine Cnd.mk (fun h => ?_) (fun _ => rfl)
  rw [ids6_len] at h
  refine Lp1.ind (fun k => k ≤ 6) (fun k => 6 - k) (fun k hk => ?_) (by omega)
  refine Cnd.mk (fun h => ?_) (fun _ => ⟨by omega, by omega⟩)
  rw [ids6_len] at h
  intro x _ y _
  have hs := conn_snoc links (A, B, 90) x y
  simp only at hs
  repeat' (first | refine Cnd.mk (fun _ => ?_) (fun _ => ?_) | refine Jn1.mk _ (same_dec _ _ _) (fun r hr => ?_))
  all_goals subst_vars
  all_goals first | exact ⟨by omega, by omega⟩ | (exfalso; simp_all; done)

theorem paths_ok (l : List UInt8) (a b : Int) (ha : 0 ≤ a) (ha' : a ≤ 255) (hb : 0 ≤ b) (hb' : b ≤ 255) : P_law26_IdentityPaths l a b (fun r => r = true) := by
  unfold P_law26_IdentityPaths
  refine law_head rfl ?_
  refine Jn1.mk _ (links_ok l true) (fun links hl => ?_)
  have hl1 := hl.1
  refine ⟨InI.mk (by omega) (by omega), ?_⟩
  refine Jn1.mk (fun _ => True) ⟨ha, fun _ _ => trivial⟩ (fun A _ => ?_)
  refine ⟨InI.mk (by omega) (by omega), ?_⟩
  refine Jn1.mk (fun _ => True) ⟨hb, fun _ _ => trivial⟩ (fun B _ => ?_)
  refine Jn2.mk _ (idPath_ok links A B (by omega)) (fun p ok hp => ?_)
  refine Jn1.mk _ (fun r h => h) (fun r hr => ?_)
  have hokr : ok = r := by rw [Bool.eq_iff_iff, hp.1, hr]
  refine Cnd.mk (fun _ => ?_) (fun h => absurd (by rw [hokr]; simp) h)
  refine Cnd.mk (fun h => ?_) (fun h => ?_)
  · have hgp := hp.2.1 h
    obtain ⟨vs, hov, _⟩ := hgp.over
    have hpl : p.length ≤ 60 := by have := dist_bound hgp.len; omega
    refine Lp2.ind (fun at_ i => i ≤ p.length ∧ at_.length = i + 1 ∧ ∃ pre x ws, at_ = pre ++ [x] ∧ Over B x (p.drop i) ws ∧ ∀ v ∈ ws, v ∉ pre) (fun _ i => p.length - i) (fun at_ i hi => ?_) ⟨Nat.zero_le _, by simp, [], A, vs, by simp, by simpa using hov, by simp⟩
    obtain ⟨hil, hal, pre, x, ws, hat, ho, hws⟩ := hi
    have hx : at_[i]? = some x := by
      have : i = pre.length := by rw [hat] at hal; simp at hal; omega
      rw [hat, this]; simp
    intro _
    refine Cnd.mk (fun h => ?_) (fun h => ?_)
    · intro _
      refine ⟨InI.mk (by omega) (by omega), i, by omega, x, hx, ?_⟩
      intro e he
      have hlt := ltq he
      have hd : p.drop i = e :: p.drop (i + 1) := by
        rw [List.drop_eq_getElem_cons hlt]
        rw [List.getElem?_eq_getElem hlt] at he
        cases he; rfl
      rw [hd] at ho
      cases ho with
      | @step _ _ y _ ws' hoy hxw ho' =>
        refine Jn1.mk (fun nx => nx = y) ?_ (fun nx hnx => ?_)
        · unfold oth at hoy
          refine Cnd.mk (fun h => ?_) (fun h => ?_)
          · rw [if_pos h.symm] at hoy; cases hoy; rfl
          · rw [if_neg (fun e => h e.symm)] at hoy
            split at hoy
            · cases hoy; rfl
            · cases hoy
        · subst hnx
          have hyn : nx ∉ at_ := by
            rw [hat]
            simp
            refine ⟨fun h => hws nx (by simp [ho'.head]) h, fun e => hxw (e ▸ ho'.head)⟩
          have next : (i + 1 ≤ p.length ∧ (at_ ++ [nx]).length = i + 1 + 1 ∧ ∃ pre x ws, at_ ++ [nx] = pre ++ [x] ∧ Over B x (p.drop (i + 1)) ws ∧ ∀ v ∈ ws, v ∉ pre) ∧ p.length - (i + 1) < p.length - i := by
            refine ⟨⟨by omega, by simp; omega, at_, nx, ws', rfl, ho', fun v hv hva => ?_⟩, by omega⟩
            rw [hat] at hva
            simp at hva
            rcases hva with hva | rfl
            · exact hws v (by simp [hv]) hva
            · exact hxw hv
          have hsm : Sml (at_ ++ [nx]).length := by unfold Sml; simp; omega
          refine Cnd.mk (fun h => ?_) (fun h => ?_)
          · exact Jn1.mk _ (Has_ok at_ nx) (fun r hr => Cnd.mk (fun h => absurd (hr.1 h) hyn) (fun _ => ⟨hsm, next⟩))
          · refine Cnd.mk (fun h => ?_) (fun h2 => ?_)
            · exact Jn1.mk _ (Has_ok at_ nx) (fun r hr => Cnd.mk (fun h => absurd (hr.1 h) hyn) (fun _ => ⟨hsm, next⟩))
            · exfalso
              rcases oth_joins hoy with ⟨h3, _⟩ | ⟨_, h3⟩
              · exact h h3
              · exact h2 h3
    · have hie : i = p.length := by omega
      subst hie
      rw [List.drop_length] at ho
      cases ho
      intro _
      refine ⟨InI.mk (by omega) (by omega), p.length, by omega, B, hx, Cnd.mk (fun _ => ?_) (fun h => absurd rfl h)⟩
      refine Lp1.ind (fun i => i ≤ p.length) (fun i => p.length - i) (fun i hi => ?_) (Nat.zero_le _)
      refine Cnd.mk (fun h => ?_) (fun _ => rfl)
      refine ⟨by omega, by omega, by unfold Sml; simp; omega, by unfold Sml; simp; omega, ?_⟩
      refine Jn1.mk _ (fun r h => h) (fun r hr => ?_)
      exact Cnd.mk (fun h2 => absurd (hr.1 h2) (hov.cut i (by omega))) (fun _ => ⟨by omega, by omega⟩)
  · intro _
    have : p = [] := hp.2.2 (by simpa using h)
    subst this; rfl

theorem parts_ok (l : List UInt8) : P_law26_IdentityParts l (fun r => r = true) := by
  unfold P_law26_IdentityParts
  refine law_head rfl ?_
  refine Jn1.mk _ (links_ok l true) (fun links hl => ?_)
  have hl1 := hl.1
  refine Jn1.mk (fun ids => ids = ids6') rfl (fun ids hids => ?_)
  subst hids
  refine Lp1.ind (fun i => i ≤ 6) (fun i => 6 - i) (fun i hi => ?_) (by omega)
  intro _
  refine Cnd.mk (fun h => ?_) (fun h => ?_)
  · rw [ids6_len] at h
    intro x _
    refine Jn1.mk (IsMem links x) ⟨by omega, fun ys h => h⟩ (fun ys hys => ?_)
    have hxy := (hys.2 x).2 (Conn.refl links x)
    have hyl := mem_len hys.1 (fun y hy => (hys.2 y).1 hy)
    obtain ⟨y0, hy0⟩ : ∃ y0, ys[0]? = some y0 := by
      cases ys with
      | nil => cases hxy
      | cons y ys => exact ⟨y, rfl⟩
    have hl0 : Least links x y0 := hys.head (by rw [List.head?_eq_getElem?]; exact hy0)
    refine Lp2.ind (fun found k => k ≤ ys.length ∧ (found = true ↔ x ∈ ys.take k)) (fun _ k => ys.length - k) (fun found k hk => ?_) ⟨Nat.zero_le _, by simp⟩
    obtain ⟨hk, hf⟩ := hk
    intro _
    refine Cnd.mk (fun h => ?_) (fun h => ?_)
    · refine Jn1.mk (fun f2 => (f2 = true ↔ x ∈ ys.take (k + 1))) ?_ (fun f2 hf2 => ?_)
      · refine Cnd.mk (fun h2 => ?_) (fun h2 => ?_)
        · simp
          have := hf.1 h2
          rw [List.take_add_one]; simp [this]
        · intro y hy
          rw [tk1 hy]
          have hno : x ∉ ys.take k := fun hm => h2 (hf.2 hm)
          simp [hno]
          exact eq_comm
      · have rest : ∀ y, ys[k]? = some y → Jn1 (fun (r9_ : (List ByteArray)) => Jn1 (fun (r10_ : Bool) => Cnd (r10_ = true) (∃ x7_, ys[0]? = some x7_ ∧ Jn1 (fun (r11_ : ByteArray) => Cnd (r11_ = x7_) (Jn1 (fun (r12_ : Bool) => Cnd (r12_ = true) ((k + 1 ≤ ys.length ∧ (f2 = true ↔ x ∈ ys.take (k + 1))) ∧ ys.length - (k + 1) < ys.length - k) (false = true)) (P_identity_Same links y x)) (false = true)) (P_identity_Root links y)) (false = true)) (P_ref1_Same r9_ ys)) (P_identity_Members links y) := by
          intro y hy
          have hlt := ltq hy
          have hxyc : Conn links x y := (hys.2 y).1 (List.mem_of_getElem? hy)
          refine Jn1.mk (IsMem links y) ⟨by omega, fun ys h => h⟩ (fun zs hzs => ?_)
          have hze : zs = ys := hzs.unique ⟨hys.1, fun u => (hys.2 u).trans ⟨fun h => hxyc.symm.trans h, fun h => hxyc.trans h⟩⟩
          refine Jn1.mk _ (Same_ok zs ys) (fun r hr => Cnd.mk (fun _ => ?_) (fun h => absurd (hr.2 hze) h))
          refine ⟨y0, hy0, Jn1.mk _ (fun r h => h) (fun r hr => Cnd.mk (fun _ => ?_) (fun h => absurd ?_ h))⟩
          · refine Jn1.mk _ (fun r h => h) (fun r hr => Cnd.mk (fun _ => ⟨⟨by omega, hf2⟩, by omega⟩) (fun h => absurd (hr.2 hxyc.symm) h))
          · exact Least.unique hr hl0 hxyc.symm
        refine Cnd.mk (fun h2 => ?_) (fun h2 => ?_)
        · intro y hy
          have hlt := ltq hy
          obtain ⟨z, hz⟩ : ∃ z, ys[k - 1]? = some z := ⟨_, List.getElem?_eq_getElem (by omega)⟩
          refine ⟨InI.mk (by omega) (by omega), k - 1, by omega, z, hz, Cnd.mk (fun _ => rest y hy) (fun h => absurd ?_ h)⟩
          have hasc := List.pairwise_iff_getElem.1 hys.1 (k - 1) k (by omega) hlt (by omega)
          rw [List.getElem?_eq_getElem (by omega)] at hz
          rw [List.getElem?_eq_getElem hlt] at hy
          cases hz; cases hy
          exact hasc
        · intro y hy
          exact rest y hy
    · have hke : k = ys.length := by omega
      subst hke
      rw [List.take_length] at hf
      exact Cnd.mk (fun _ => ⟨by omega, by omega⟩) (fun h => absurd (hf.2 hxy) h)
  · refine Lp1.ind (fun i => i ≤ links.length) (fun i => links.length - i) (fun i hi => ?_) (Nat.zero_le _)
    intro _
    refine Cnd.mk (fun h => ?_) (fun _ => rfl)
    intro e he
    refine Jn1.mk _ (fun r h => h) (fun r hr => Cnd.mk (fun _ => ⟨by omega, by omega⟩) (fun h => absurd (hr.2 ?_) h))
    exact Conn.link (List.mem_of_getElem? he) (.inl ⟨rfl, rfl⟩)

theorem order_ok (l : List UInt8) (t a : Int) (ht : 0 ≤ t) (ht' : t ≤ 255) (ha : 0 ≤ a) (ha' : a ≤ 255) : P_law26_IdentityOrder l t a (fun r => r = true) := by
  unfold P_law26_IdentityOrder
  refine law_head rfl ?_
  refine Jn1.mk _ (links_ok l true) (fun links hl => ?_)
  have hl1 := hl.1
  intro _
  refine ⟨InI.mk (by omega) (by omega), ?_⟩
  refine Lp2.ind (fun (other : List L3) (i : Int) => -1 ≤ i ∧ i < links.length ∧ (other.length : Int) ≤ 2 * (links.length - 1 - i) ∧ (∀ e ∈ other, ∀ u v, joins e u v → Conn links u v) ∧ (∀ (j : Nat) x, links[j]? = some x → i < j → ∀ u v, joins x u v → Conn other u v)) (fun _ i => (i + 1).toNat) (fun other i hi => ?_)
    ⟨by omega, by omega, by simp, by simp, fun j x hx hj => by have := ltq hx; omega⟩
  obtain ⟨h1, h2, hol, ho1, ho2⟩ := hi
  refine Cnd.mk (fun h => ?_) (fun h => ?_)
  · obtain ⟨j, rfl⟩ : ∃ j : Nat, i = (j : Int) := ⟨i.toNat, by omega⟩
    obtain ⟨x, hx⟩ : ∃ x, links[j]? = some x := ⟨_, List.getElem?_eq_getElem (by omega)⟩
    refine ⟨j, rfl, x, hx, ?_⟩
    have hxm := List.mem_of_getElem? hx
    refine Jn1.mk (fun b => ∀ u v, joins b u v ↔ joins x u v) ?_ (fun b hb => ?_)
    · refine ⟨InI.mk (by omega) (by omega), InI.mk (by omega) (by omega), Cnd.mk (fun _ u v => ?_) (fun _ u v => Iff.rfl)⟩
      unfold joins
      simp only
      constructor
      · rintro (⟨h1, h2⟩ | ⟨h1, h2⟩)
        · exact .inr ⟨h2, h1⟩
        · exact .inl ⟨h2, h1⟩
      · rintro (⟨h1, h2⟩ | ⟨h1, h2⟩)
        · exact .inr ⟨h2, h1⟩
        · exact .inl ⟨h2, h1⟩
    · have conn1 : ∀ L : List L3, (∀ e, e ∈ L ↔ e ∈ other ∨ e = b) → (∀ e ∈ L, ∀ u v, joins e u v → Conn links u v) ∧ (∀ (q : Nat) y, links[q]? = some y → ((j : Int) - 1) < q → ∀ u v, joins y u v → Conn L u v) := by
        intro L hL
        refine ⟨fun e he u v hj => ?_, fun q y hy hq u v hj => ?_⟩
        · rcases (hL e).1 he with he | rfl
          · exact ho1 e he u v hj
          · exact Conn.link hxm ((hb u v).1 hj)
        · by_cases hqj : q = j
          · subst hqj
            rw [hx] at hy; cases hy
            exact Conn.link ((hL b).2 (.inr rfl)) ((hb u v).2 hj)
          · exact (ho2 q y hy (by omega) u v hj).mono fun e he => (hL e).2 (.inl he)
      refine ⟨by unfold Sml; simp; omega, InI.mk (by omega) (by omega), InI.mk (by omega) (by omega), Cnd.mk (fun _ => ?_) (fun _ => ?_)⟩
      · obtain ⟨c1, c2⟩ := conn1 (other ++ [b] ++ [b]) (fun e => by simp)
        exact ⟨by unfold Sml; simp; omega, InI.mk (by omega) (by omega), ⟨by omega, by omega, by simp; omega, c1, c2⟩, by omega⟩
      · obtain ⟨c1, c2⟩ := conn1 (other ++ [b]) (fun e => by simp)
        exact ⟨InI.mk (by omega) (by omega), ⟨by omega, by omega, by simp; omega, c1, c2⟩, by omega⟩
  · have hcc : ∀ u v, Conn other u v ↔ Conn links u v := fun u v => ⟨fun h => h.iff_of ho1, fun hc => hc.iff_of fun e he u v hj => by
      obtain ⟨q, hq⟩ := List.mem_iff_getElem?.1 he
      exact ho2 q e hq (by omega) u v hj⟩
    have hol2 : other.length ≤ 60 := by omega
    refine Jn1.mk (fun ids => ids = ids6') rfl (fun ids hids => ?_)
    subst hids
    refine Lp1.ind (fun i => i ≤ 6) (fun i => 6 - i) (fun i hi => ?_) (by omega)
    intro _
    refine Cnd.mk (fun h => ?_) (fun _ => rfl)
    rw [ids6_len] at h
    intro x _
    refine Jn1.mk (IsMem links x) ⟨by omega, fun ys h => h⟩ (fun ys hys => ?_)
    have hxy := (hys.2 x).2 (Conn.refl links x)
    intro _
    refine Cnd.mk (fun h => ?_) (fun _ => ?_)
    · cases ys with
      | nil => cases hxy
      | cons y ys => simp at h; omega
    refine Jn1.mk (IsMem other x) ⟨by omega, fun ys h => h⟩ (fun zs hzs => ?_)
    have hze : ys = zs := hys.unique ⟨hzs.1, fun u => (hzs.2 u).trans (hcc x u)⟩
    refine Jn1.mk _ (Same_ok ys zs) (fun r hr => Cnd.mk (fun _ => ?_) (fun h => absurd (hr.2 hze) h))
    refine Jn1.mk (fun f => f = fo links links.length) ⟨by omega, rfl⟩ (fun f hf => ?_)
    subst hf
    have hfl := fo_len links links.length
    refine Jn1.mk (IsMem (fo links links.length) x) ⟨by omega, fun ys h => h⟩ (fun us hus => ?_)
    have hue : ys = us := hys.unique ⟨hus.1, fun u => by rw [hus.2, fo_conn, List.take_length]⟩
    refine Jn1.mk _ (Same_ok ys us) (fun r hr => Cnd.mk (fun _ => ?_) (fun h => absurd (hr.2 hue) h))
    cases ys with
    | nil => cases hxy
    | cons y ys =>
      refine ⟨y, rfl, Jn1.mk _ (fun r h => h) (fun r hr => Cnd.mk (fun _ => ⟨by omega, by omega⟩) (fun h => absurd ?_ h))⟩
      have h1 : Least links x y := hys.head rfl
      exact Least.unique (l := links) ⟨(hcc _ _).1 hr.1, fun u hu => hr.2 u ((hcc _ _).2 hu)⟩ h1 (Conn.refl _ _)

open Classical in
theorem forests_ok (l : List UInt8) : P_law26_IdentityForests l (fun r => r = true) := by
  unfold P_law26_IdentityForests
  refine law_head rfl ?_
  refine Jn1.mk _ (links_ok l true) (fun links hl => ?_)
  have hl1 := hl.1
  refine Jn1.mk (fun f => f = fo links links.length) ⟨by omega, rfl⟩ (fun f hf => ?_)
  subst hf
  have hfl := fo_len links links.length
  have hcount := roots_count links hl.2 links.length
  rw [List.take_length] at hcount
  refine Jn1.mk (fun ids => ids = ids6') rfl (fun ids hids => ?_)
  subst hids
  refine Lp2.ind (fun roots i => i ≤ 6 ∧ roots = ((ids6'.take i).filter fun x => decide (IsRoot links x)).length ∧ roots ≤ i) (fun _ i => 6 - i) (fun roots i hi => ?_) ⟨by omega, by simp, by omega⟩
  obtain ⟨hi, hr, hri⟩ := hi
  intro _
  refine Cnd.mk (fun h => ?_) (fun h => ?_)
  · rw [ids6_len] at h
    intro x hx
    refine Jn1.mk _ (fun r h => h) (fun r hlr => ?_)
    have hiff : r = x ↔ IsRoot links x := ⟨fun e => by subst e; exact hlr.2, fun hrt => (hrt.eq hlr (Conn.refl _ _)).symm⟩
    refine Cnd.mk (fun h2 => ?_) (fun h2 => ?_)
    · refine ⟨InI.mk (by omega) (by omega), ⟨by omega, ?_, by omega⟩, by omega⟩
      rw [tk1 hx, List.filter_append, List.length_append, hr]
      simp [hiff.1 h2]
    · refine ⟨⟨by omega, ?_, by omega⟩, by omega⟩
      rw [tk1 hx, List.filter_append, List.length_append, hr]
      have : ¬ IsRoot links x := fun h => h2 (hiff.2 h)
      simp [this]
  · rw [ids6_len] at h
    have hie : i = 6 := by omega
    subst hie
    have e6 : ids6'.take 6 = ids6' := rfl
    rw [e6] at hr
    intro _
    rw [ids6_len]
    refine ⟨InI.mk (by omega) (by omega), Cnd.mk (fun _ => ?_) (fun h => absurd (by omega) h)⟩
    refine Jn1.mk (fun g => g = fo (fo links links.length) (fo links links.length).length) ⟨by omega, rfl⟩ (fun g hg => ?_)
    subst hg
    rw [fo_fo]
    exact Jn1.mk _ (SameLinks_ok _ _) (fun r hr => hr.2 rfl)

theorem times_ok (l : List UInt8) (s t : Int) (hs : 0 ≤ s) (hs' : s ≤ 255) (ht : 0 ≤ t) (ht' : t ≤ 255) : P_law26_IdentityTimes l s t (fun r => r = true) := by
  unfold P_law26_IdentityTimes
  refine law_head rfl ?_
  refine Jn1.mk _ (links_ok l false) (fun links hl => ?_)
  have hl1 := hl.1
  generalize hu : (min s t).tmod (40 : Int) = u
  generalize hv : (max s t).tmod (40 : Int) = v
  refine ⟨InI.mk (by omega) (by omega), ?_⟩
  refine Jn1.mk (fun r => r = upto u links) ⟨by omega, rfl⟩ (fun e1 he1 => ?_)
  refine ⟨InI.mk (by omega) (by omega), ?_⟩
  refine Jn1.mk (fun r => r = upto v links) ⟨by omega, rfl⟩ (fun e2 he2 => ?_)
  refine Jn2.mk (fun early late => ∃ a b, a ≤ b ∧ early = upto a links ∧ late = upto b links) ⟨InI.mk (by omega) (by omega), InI.mk (by omega) (by omega), Cnd.mk (fun h => ⟨v, u, by omega, he2, he1⟩) (fun h => ⟨u, v, by omega, he1, he2⟩)⟩ (fun early late hel => ?_)
  obtain ⟨a, b, hab, rfl, rfl⟩ := hel
  have hsub : ∀ e ∈ upto a links, e ∈ upto b links := fun e he => by
    simp [upto] at he ⊢
    exact ⟨he.1, by omega⟩
  have hlen : (upto a links).length ≤ (upto b links).length := by
    have : upto a links = upto a (upto b links) := by
      unfold upto
      rw [List.filter_filter]
      refine List.filter_congr fun x _ => ?_
      by_cases h : x.2.2 ≤ a <;> simp [h]
      omega
    rw [this]
    exact upto_len _ _
  have hlen2 := upto_len b links
  refine Jn1.mk (fun ids => ids = ids6') rfl (fun ids hids => ?_)
  subst hids
  refine Lp1.ind (fun i => i ≤ 6) (fun i => 6 - i) (fun i hi => ?_) (by omega)
  intro _
  refine Cnd.mk (fun h => ?_) (fun h => ?_)
  · rw [ids6_len] at h
    refine Lp1.ind (fun k => k ≤ 6) (fun k => 6 - k) (fun k hk => ?_) (by omega)
    refine Cnd.mk (fun h => ?_) (fun _ => ⟨by omega, by omega⟩)
    rw [ids6_len] at h
    intro x _ y _
    refine Jn1.mk _ (fun r h => h) (fun r hr => Cnd.mk (fun h2 => ?_) (fun _ => ⟨by omega, by omega⟩))
    exact Jn1.mk _ (fun r h => h) (fun r2 hr2 => Cnd.mk (fun _ => ⟨by omega, by omega⟩) (fun h3 => absurd (hr2.2 ((hr.1 h2).mono hsub)) h3))
  · intro _ _
    refine Cnd.mk (fun _ _ => ?_) (fun h => absurd (by omega) h)
    simp; omega

theorem tells_ok (l : List UInt8) : P_law26_IdentityTells l (fun r => r = true) := by
  unfold P_law26_IdentityTells
  refine law_head rfl ?_
  refine Jn1.mk _ (links_ok l true) (fun links hl => ?_)
  have hl1 := hl.1
  refine Jn1.mk (fun ids => ids = ids6') rfl (fun ids hids => ?_)
  subst hids
  generalize hz : ids6' ++ [(⟨#[122, 111, 101]⟩ : ByteArray)] = ids
  have hil : ids.length = 7 := by rw [← hz]; rfl
  refine ⟨by unfold Sml; omega, ?_⟩
  refine Lp1.ind (fun i => i ≤ 7) (fun i => 7 - i) (fun i hi => ?_) (by omega)
  intro _
  refine Cnd.mk (fun h => ?_) (fun h => ?_)
  · rw [hil] at h
    intro x _
    refine Jn1.mk (IsMem links x) ⟨by omega, fun ys h => h⟩ (fun ys hys => ?_)
    refine Jn1.mk (IsMem links x) ⟨by omega, fun ys h => h⟩ (fun zs hzs => ?_)
    refine Jn1.mk _ (Same_ok ys zs) (fun r hr => Cnd.mk (fun _ => ?_) (fun h => absurd (hr.2 (hys.unique hzs)) h))
    refine Jn1.mk _ (fun r h => h) (fun r1 hr1 => ?_)
    refine Jn1.mk _ (refRoot_ok links x (by omega)) (fun r2 hr2 => Cnd.mk (fun _ => ?_) (fun h => absurd (hr1.unique hr2 (Conn.refl _ _)) h))
    refine Lp1.ind (fun k => k ≤ 7) (fun k => 7 - k) (fun k hk => ?_) (by omega)
    refine Cnd.mk (fun h => ?_) (fun _ => ⟨by omega, by omega⟩)
    rw [hil] at h
    intro y _
    refine Jn2.mk _ (idPath_ok links x y (by omega)) (fun p ok hp => ?_)
    refine Jn2.mk _ (refPath_ok links x y (by omega)) (fun q is hq => ?_)
    refine Jn1.mk _ (fun r h => h) (fun r hr => ?_)
    have e1 : r = is := by rw [Bool.eq_iff_iff, hr, hq.1]
    have e2 : ok = is := by rw [Bool.eq_iff_iff, hp.1, hq.1]
    have e3 : p = q := by
      cases is with
      | true => exact (hp.2.1 e2).unique (hq.2.1 rfl)
      | false => rw [hp.2.2 e2, hq.2.2 rfl]
    refine Cnd.mk (fun _ => Cnd.mk (fun _ => ?_) (fun h => absurd (by simp [e2]) h)) (fun h => absurd (by simp [e1]) h)
    exact Jn1.mk _ (SameLinks_ok p q) (fun r hr => Cnd.mk (fun _ => ⟨by omega, by omega⟩) (fun h => absurd (hr.2 e3) h))
  · refine Lp1.ind (fun t => -1 ≤ t ∧ t ≤ 30) (fun t => (30 - t).toNat) (fun t ht => ?_) (by omega)
    refine Cnd.mk (fun h => ?_) (fun h => ?_)
    · refine Jn1.mk (fun r => r = upto t links) ⟨by omega, rfl⟩ (fun e1 he1 => ?_)
      refine Jn1.mk (fun r => r = upto t links) ⟨by omega, rfl⟩ (fun e2 he2 => ?_)
      exact Jn1.mk _ (SameLinks_ok e1 e2) (fun r hr => Cnd.mk (fun _ => ⟨InI.mk (by omega) (by omega), ⟨by omega, by omega⟩, by omega⟩) (fun h => absurd (hr.2 (he1.trans he2.symm)) h))
    · refine Jn1.mk (fun r => r = fo links links.length) ⟨by omega, rfl⟩ (fun e1 he1 => ?_)
      refine Jn1.mk _ (refForest_ok links (by omega)) (fun e2 he2 => ?_)
      exact Jn1.mk _ (SameLinks_ok e1 e2) (fun r hr => hr.2 (he1.trans he2.symm))

theorem any_ok (l : List L3) (a b : ByteArray) (t : Int) : P_law26_IdentityAny l a b t (fun r => r = true) := by
  unfold P_law26_IdentityAny
  refine Jn1.mk _ awake26_ok (fun r hr => Cnd.mk (fun _ _ => Cnd.mk (fun _ => rfl) (fun hl => ?_)) (fun h => absurd hr h))
  refine Jn2.mk (fun _ _ => True) ?_ (fun a b _ => ?_)
  · refine Cnd.mk (fun h => Cnd.mk (fun _ => ?_) (fun _ => trivial)) (fun _ => trivial)
    obtain ⟨x, hx⟩ : ∃ x, l[0]? = some x := ⟨_, List.getElem?_eq_getElem (by omega)⟩
    obtain ⟨y, hy⟩ : ∃ y, l[l.length - 1]? = some y := ⟨_, List.getElem?_eq_getElem (by omega)⟩
    exact ⟨x, hx, InI.mk (by omega) (by omega), l.length - 1, by omega, y, hy, trivial⟩
  · have hlen : l.length ≤ 1000 := by omega
    refine Jn2.mk _ (idPath_ok l a b hlen) (fun p ok hp => ?_)
    refine Jn2.mk _ (refPath_ok l a b hlen) (fun q is hq => ?_)
    have e2 : ok = is := by rw [Bool.eq_iff_iff, hp.1, hq.1]
    have e3 : p = q := by
      cases is with
      | true => exact (hp.2.1 e2).unique (hq.2.1 rfl)
      | false => rw [hp.2.2 e2, hq.2.2 rfl]
    refine Jn1.mk (IsMem l a) ⟨hlen, fun ys h => h⟩ (fun ys hys => ?_)
    refine Jn1.mk (IsMem l a) ⟨hlen, fun ys h => h⟩ (fun zs hzs => ?_)
    refine Jn1.mk _ (Same_ok ys zs) (fun r hr => Cnd.mk (fun _ => ?_) (fun h => absurd (hr.2 (hys.unique hzs)) h))
    refine Jn1.mk _ (fun r h => h) (fun r1 hr1 => ?_)
    refine Jn1.mk _ (refRoot_ok l b hlen) (fun r2 hr2 => Cnd.mk (fun _ => ?_) (fun h => absurd (hr1.unique hr2 (Conn.refl _ _)) h))
    refine Jn1.mk _ (fun r h => h) (fun r hr => ?_)
    have e1 : r = is := by rw [Bool.eq_iff_iff, hr, hq.1]
    refine Cnd.mk (fun _ => Cnd.mk (fun _ => ?_) (fun h => absurd (by simp [e2]) h)) (fun h => absurd (by simp [e1]) h)
    refine Jn1.mk _ (SameLinks_ok p q) (fun r hr => Cnd.mk (fun _ => ?_) (fun h => absurd (hr.2 e3) h))
    refine Jn1.mk (fun r => r = upto t l) ⟨by omega, rfl⟩ (fun u1 hu1 => ?_)
    refine Jn1.mk (fun r => r = upto t l) ⟨by omega, rfl⟩ (fun u2 hu2 => ?_)
    refine Jn1.mk _ (SameLinks_ok u1 u2) (fun r hr => Cnd.mk (fun _ => ?_) (fun h => absurd (hr.2 (hu1.trans hu2.symm)) h))
    refine Jn1.mk (fun r => r = fo l l.length) ⟨by omega, rfl⟩ (fun f1 hf1 => ?_)
    refine Jn1.mk _ (refForest_ok l hlen) (fun f2 hf2 => ?_)
    exact Jn1.mk _ (SameLinks_ok f1 f2) (fun r hr => hr.2 (hf1.trans hf2.symm))
#print axioms paths_ok
end Go.Fl
