/- The plain law of links between ids: components, least ids, forests. Conditions: none; no program is in sight. -/
import Derived.Sort.Walk0
namespace Go.Fl.Lk

/-! ### The order of texts -/
def blt (x y : ByteArray) : Prop := x.data.toList < y.data.toList
instance (x y : ByteArray) : Decidable (blt x y) := by unfold blt; infer_instance
theorem data_inj {x y : ByteArray} (h : x.data.toList = y.data.toList) : x = y := by
  cases x; cases y; simp at h; simp [h]
theorem blt_irrefl (x : ByteArray) : ¬ blt x x := List.lt_irrefl _
theorem blt_trans {x y z : ByteArray} (h : blt x y) (k : blt y z) : blt x z := List.lt_trans h k
theorem blt_tri {x y : ByteArray} (h : ¬ blt x y) (k : ¬ blt y x) : x = y := data_inj (List.le_antisymm k h)
theorem blt_asymm {x y : ByteArray} (h : blt x y) : ¬ blt y x := fun k => blt_irrefl _ (blt_trans h k)
theorem blt_ne {x y : ByteArray} (h : blt x y) : x ≠ y := fun e => blt_irrefl y (e ▸ h)

/-! ### Components -/
/-- A link: its two ids and its time. -/
abbrev L3 := ByteArray × ByteArray × Int
def joins (e : L3) (y z : ByteArray) : Prop := (e.1 = y ∧ e.2.1 = z) ∨ (e.1 = z ∧ e.2.1 = y)
theorem joins_symm {e : L3} {y z : ByteArray} (h : joins e y z) : joins e z y := h.symm
def Conn (l : List L3) (x y : ByteArray) : Prop := ∀ p : ByteArray → Prop, p x → (∀ e ∈ l, ∀ a b, joins e a b → p a → p b) → p y
theorem Conn.refl (l : List L3) (x : ByteArray) : Conn l x x := fun _ h _ => h
theorem Conn.trans {l : List L3} {x y z : ByteArray} (h : Conn l x y) (k : Conn l y z) : Conn l x z := fun p hp st => k p (h p hp st) st
theorem Conn.link {l : List L3} {e : L3} (h : e ∈ l) {x y : ByteArray} (hj : joins e x y) : Conn l x y := fun _ hp st => st e h x y hj hp
theorem Conn.symm {l : List L3} {x y : ByteArray} (h : Conn l x y) : Conn l y x :=
  h (fun y => Conn l y x) (Conn.refl l x) fun _ he _ _ hj hp => (Conn.link he (joins_symm hj)).trans hp
theorem Conn.mono {l k : List L3} {x y : ByteArray} (h : Conn l x y) (hs : ∀ e ∈ l, e ∈ k) : Conn k x y := fun p hp st => h p hp fun e he => st e (hs e he)
theorem Conn.iff_of {l k : List L3} (hs : ∀ e ∈ l, ∀ a b, joins e a b → Conn k a b) {x y : ByteArray} (h : Conn l x y) : Conn k x y :=
  h (fun y => Conn k x y) (Conn.refl k x) fun e he a b hj hp => hp.trans (hs e he a b hj)
/-- One more link. -/
theorem conn_snoc (l : List L3) (e : L3) (x y : ByteArray) : Conn (l ++ [e]) x y ↔ Conn l x y ∨ (Conn l x e.1 ∧ Conn l e.2.1 y) ∨ (Conn l x e.2.1 ∧ Conn l e.1 y) := by
  constructor
  · intro h
    refine h (fun y => Conn l x y ∨ (Conn l x e.1 ∧ Conn l e.2.1 y) ∨ (Conn l x e.2.1 ∧ Conn l e.1 y)) (.inl (Conn.refl l x)) fun k hk a b hj hp => ?_
    rcases List.mem_append.1 hk with hk | hk
    · have hab := Conn.link hk hj
      rcases hp with hp | ⟨h1, h2⟩ | ⟨h1, h2⟩
      · exact .inl (hp.trans hab)
      · exact .inr (.inl ⟨h1, h2.trans hab⟩)
      · exact .inr (.inr ⟨h1, h2.trans hab⟩)
    · simp only [List.mem_singleton] at hk
      subst hk
      rcases hj with ⟨rfl, rfl⟩ | ⟨rfl, rfl⟩
      · rcases hp with hp | ⟨h1, h2⟩ | ⟨h1, h2⟩
        · exact .inr (.inl ⟨hp, Conn.refl _ _⟩)
        · exact .inr (.inl ⟨h1, Conn.refl _ _⟩)
        · exact .inl h1
      · rcases hp with hp | ⟨h1, h2⟩ | ⟨h1, h2⟩
        · exact .inr (.inr ⟨hp, Conn.refl _ _⟩)
        · exact .inl h1
        · exact .inr (.inr ⟨h1, Conn.refl _ _⟩)
  · have hin : Conn (l ++ [e]) e.1 e.2.1 := Conn.link (by simp) (.inl ⟨rfl, rfl⟩)
    have hm : ∀ {a b}, Conn l a b → Conn (l ++ [e]) a b := fun h => h.mono fun k hk => by simp [hk]
    rintro (h | ⟨h1, h2⟩ | ⟨h1, h2⟩)
    · exact hm h
    · exact (hm h1).trans (hin.trans (hm h2))
    · exact (hm h1).trans (hin.symm.trans (hm h2))
def ids (l : List L3) : List ByteArray := l.flatMap fun e => [e.1, e.2.1]
theorem mem_ids {l : List L3} {e : L3} (h : e ∈ l) : e.1 ∈ ids l ∧ e.2.1 ∈ ids l := by
  unfold ids
  constructor <;> exact List.mem_flatMap.2 ⟨e, h, by simp⟩
theorem ids_snoc (l : List L3) (e : L3) : ids (l ++ [e]) = ids l ++ [e.1, e.2.1] := by simp [ids]
theorem Conn.ids {l : List L3} {x y : ByteArray} (h : Conn l x y) : x = y ∨ y ∈ ids l := by
  refine h (fun y => x = y ∨ y ∈ Lk.ids l) (.inl rfl) fun e he a b hj _ => .inr ?_
  rcases hj with ⟨_, rfl⟩ | ⟨rfl, _⟩
  · exact (mem_ids he).2
  · exact (mem_ids he).1
theorem Conn.ids' {l : List L3} {x y : ByteArray} (h : Conn l x y) (hne : x ≠ y) : x ∈ Lk.ids l ∧ y ∈ Lk.ids l :=
  ⟨(h.symm.ids).resolve_left fun e => hne e.symm, h.ids.resolve_left hne⟩

/-! ### The forest of lesser ids -/
structure Good (l : List L3) (F : ByteArray → Option ByteArray) : Prop where
  less : ∀ x y, F x = some y → blt y x ∧ Conn l x y
  key : ∀ x y, F x = some y → x ∈ ids l
  one : ∀ x y, Conn l x y → F x = none → F y = none → x = y
/-- How many ids do not pass x. -/
def below (l : List L3) (x : ByteArray) : Nat := ((ids l).filter fun y => decide (¬ blt x y)).length
theorem filter_lt {α : Type} (L : List α) (p q : α → Bool) (hpq : ∀ x, p x = true → q x = true) {a : α} (ha : a ∈ L) (hq : q a = true) (hp : p a = false) : (L.filter p).length < (L.filter q).length := by
  induction L with
  | nil => cases ha
  | cons x L ih =>
    have hle : (L.filter p).length ≤ (L.filter q).length := by
      clear ih ha
      induction L with
      | nil => exact Nat.le_refl _
      | cons y L ih =>
        simp only [List.filter_cons]
        by_cases h1 : p y = true
        · simp [h1, hpq y h1]; exact ih
        · by_cases h2 : q y = true
          · simp [h1, h2]; omega
          · simp [h1, h2]; exact ih
    simp only [List.filter_cons]
    rcases List.mem_cons.1 ha with rfl | ha
    · simp [hp, hq]; omega
    · have := ih ha
      by_cases h1 : p x = true
      · simp [h1, hpq x h1]; exact this
      · by_cases h2 : q x = true
        · simp [h1, h2]; omega
        · simp [h1, h2]; exact this
theorem Good.down {l : List L3} {F : ByteArray → Option ByteArray} (h : Good l F) {x y : ByteArray} (hx : F x = some y) : below l y < below l x := by
  have hl := (h.less x y hx).1
  refine filter_lt _ _ _ (fun z hz => ?_) (h.key x y hx) ?_ ?_
  · simp only [decide_eq_true_eq] at hz ⊢
    exact fun hxz => hz (blt_trans hl hxz)
  · simpa using blt_irrefl x
  · simpa using hl
def Least (l : List L3) (x r : ByteArray) : Prop := Conn l x r ∧ ∀ y, Conn l x y → ¬ blt y r
theorem Good.root {l : List L3} {F : ByteArray → Option ByteArray} (h : Good l F) : ∀ (n : Nat) (x : ByteArray), below l x ≤ n → ∃ r, Conn l x r ∧ F r = none ∧ ¬ blt x r
  | 0, x, hn => by
    rcases hx : F x with _ | y
    · exact ⟨x, Conn.refl l x, hx, blt_irrefl x⟩
    · have := h.down hx; omega
  | n + 1, x, hn => by
    rcases hx : F x with _ | y
    · exact ⟨x, Conn.refl l x, hx, blt_irrefl x⟩
    · have hd := h.down hx
      obtain ⟨r, h1, h2, h3⟩ := h.root n y (by omega)
      obtain ⟨h4, h5⟩ := h.less x y hx
      exact ⟨r, h5.trans h1, h2, fun hxr => h3 (blt_trans h4 hxr)⟩
theorem Good.least {l : List L3} {F : ByteArray → Option ByteArray} (h : Good l F) {x r : ByteArray} (hc : Conn l x r) (hr : F r = none) : Least l x r := by
  refine ⟨hc, fun y hy hlt => ?_⟩
  obtain ⟨r', h1, h2, h3⟩ := h.root _ y (Nat.le_refl _)
  have : r = r' := h.one r r' ((hc.symm.trans hy).trans h1) hr h2
  subst this
  exact h3 hlt
theorem Least.unique {l : List L3} {x y r s : ByteArray} (h : Least l x r) (k : Least l y s) (hc : Conn l x y) : r = s :=
  blt_tri (fun hl => k.2 r (hc.symm.trans h.1) hl) (fun hl => h.2 s (hc.trans k.1) hl)
theorem Least.conn {l : List L3} {x y r s : ByteArray} (h : Least l x r) (k : Least l y s) : r = s ↔ Conn l x y :=
  ⟨fun e => by subst e; exact h.1.trans k.1.symm, fun hc => h.unique k hc⟩
theorem good_nil : Good [] (fun _ => none) := ⟨fun _ _ h => by simp at h, fun _ _ h => by simp at h, fun x y h _ _ => h (fun z => x = z) rfl fun e he => by simp at he⟩
/-- A link within a component. -/
theorem Good.same {l : List L3} {F : ByteArray → Option ByteArray} (h : Good l F) {e : L3} (hc : Conn l e.1 e.2.1) : Good (l ++ [e]) F := by
  have hm : ∀ {a b}, Conn l a b → Conn (l ++ [e]) a b := fun h => h.mono fun k hk => by simp [hk]
  refine ⟨fun x y hx => ⟨(h.less x y hx).1, hm (h.less x y hx).2⟩, fun x y hx => by rw [ids_snoc]; simp [h.key x y hx], fun x y hxy => ?_⟩
  refine h.one x y ?_
  rcases (conn_snoc l e x y).1 hxy with h1 | ⟨h1, h2⟩ | ⟨h1, h2⟩
  · exact h1
  · exact h1.trans (hc.trans h2)
  · exact h1.trans (hc.symm.trans h2)
/-- A link between two components: the greater root leads to the lesser one. -/
theorem Good.join {l : List L3} {F : ByteArray → Option ByteArray} (h : Good l F) {e : L3} {x y : ByteArray} (hx : Conn l e.1 x) (hy : Conn l e.2.1 y) (fx : F x = none) (fy : F y = none) {g s : ByteArray}
    (hlt : blt s g) (hgs : (g = x ∧ s = y) ∨ (g = y ∧ s = x)) : Good (l ++ [e]) (fun k => if k = g then some s else F k) := by
  have hm : ∀ {a b}, Conn l a b → Conn (l ++ [e]) a b := fun h => h.mono fun k hk => by simp [hk]
  have hin : Conn (l ++ [e]) e.1 e.2.1 := Conn.link (by simp) (.inl ⟨rfl, rfl⟩)
  have hxy : Conn (l ++ [e]) x y := (hm hx).symm.trans (hin.trans (hm hy))
  refine ⟨fun a b hab => ?_, fun a b hab => ?_, fun a b hab ha hb => ?_⟩
  · by_cases hag : a = g
    · subst hag
      simp at hab; subst hab
      refine ⟨hlt, ?_⟩
      rcases hgs with ⟨rfl, rfl⟩ | ⟨rfl, rfl⟩
      · exact hxy
      · exact hxy.symm
    · simp [hag] at hab
      exact ⟨(h.less a b hab).1, hm (h.less a b hab).2⟩
  · rw [ids_snoc]
    by_cases hag : a = g
    · subst hag
      rcases hgs with ⟨rfl, _⟩ | ⟨rfl, _⟩
      · rcases hx.ids with h1 | h1
        · simp [← h1]
        · simp [h1]
      · rcases hy.ids with h1 | h1
        · simp [← h1]
        · simp [h1]
    · simp [hag] at hab
      simp [h.key a b hab]
  · have hag : a ≠ g := fun e => by subst e; simp at ha
    have hbg : b ≠ g := fun e => by subst e; simp at hb
    simp [hag] at ha
    simp [hbg] at hb
    rcases (conn_snoc l e a b).1 hab with h1 | ⟨h1, h2⟩ | ⟨h1, h2⟩
    · exact h.one a b h1 ha hb
    · have e1 := h.one a x (h1.trans hx) ha fx
      have e2 := h.one b y (h2.symm.trans hy) hb fy
      exfalso
      rcases hgs with ⟨rfl, _⟩ | ⟨rfl, _⟩
      · exact hag e1
      · exact hbg e2
    · have e1 := h.one a y (h1.trans hy) ha fy
      have e2 := h.one b x (h2.symm.trans hx) hb fx
      exfalso
      rcases hgs with ⟨rfl, _⟩ | ⟨rfl, _⟩
      · exact hbg e2
      · exact hag e1

/-! ### The members -/
def Asc (ys : List ByteArray) : Prop := ys.Pairwise blt
def IsMem (l : List L3) (x : ByteArray) (ys : List ByteArray) : Prop := Asc ys ∧ ∀ y, y ∈ ys ↔ Conn l x y
theorem asc_unique : ∀ {ys zs : List ByteArray}, Asc ys → Asc zs → (∀ y, y ∈ ys ↔ y ∈ zs) → ys = zs
  | [], [], _, _, _ => rfl
  | [], z :: zs, _, _, h => by have := (h z).2 (by simp); simp at this
  | y :: ys, [], _, _, h => by have := (h y).1 (by simp); simp at this
  | y :: ys, z :: zs, hy, hz, h => by
    obtain ⟨hy1, hy2⟩ := List.pairwise_cons.1 hy
    obtain ⟨hz1, hz2⟩ := List.pairwise_cons.1 hz
    have e : y = z := by
      rcases List.mem_cons.1 ((h y).1 (by simp)) with e | h1
      · exact e
      · rcases List.mem_cons.1 ((h z).2 (by simp)) with e | h2
        · exact e.symm
        · exact absurd (blt_trans (hy1 z h2) (hz1 y h1)) (blt_irrefl _)
    subst e
    rw [asc_unique hy2 hz2 fun u => ?_]
    constructor
    · intro hu
      rcases List.mem_cons.1 ((h u).1 (by simp [hu])) with rfl | h1
      · exact absurd (hy1 _ hu) (blt_irrefl _)
      · exact h1
    · intro hu
      rcases List.mem_cons.1 ((h u).2 (by simp [hu])) with rfl | h1
      · exact absurd (hz1 _ hu) (blt_irrefl _)
      · exact h1
theorem IsMem.unique {l : List L3} {x : ByteArray} {ys zs : List ByteArray} (h : IsMem l x ys) (k : IsMem l x zs) : ys = zs :=
  asc_unique h.1 k.1 fun y => (h.2 y).trans (k.2 y).symm
theorem IsMem.head {l : List L3} {x r : ByteArray} {ys : List ByteArray} (h : IsMem l x ys) (hr : ys.head? = some r) : Least l x r := by
  cases ys with
  | nil => cases hr
  | cons y ys =>
    simp at hr; subst hr
    refine ⟨(h.2 y).1 (by simp), fun z hz hlt => ?_⟩
    rcases List.mem_cons.1 ((h.2 z).2 hz) with rfl | h1
    · exact blt_irrefl _ hlt
    · exact blt_irrefl _ (blt_trans hlt ((List.pairwise_cons.1 h.1).1 z h1))
theorem mem_step_in {l : List L3} {x e : ByteArray} {A l2 : List ByteArray} (h : ∀ y, y ∈ l2 ↔ y = x ∨ (y ∈ A ∧ Conn l x y)) (hc : Conn l x e) : ∀ y, y ∈ l2 ++ [e] ↔ y = x ∨ (y ∈ A ++ [e] ∧ Conn l x y) := by
  intro y
  simp only [List.mem_append, List.mem_singleton, h]
  constructor
  · rintro ((h1 | ⟨h1, h2⟩) | rfl)
    · exact .inl h1
    · exact .inr ⟨.inl h1, h2⟩
    · exact .inr ⟨.inr rfl, hc⟩
  · rintro (h1 | ⟨h1 | h1, h2⟩)
    · exact .inl (.inl h1)
    · exact .inl (.inr ⟨h1, h2⟩)
    · exact .inr h1
theorem mem_step_out {l : List L3} {x e : ByteArray} {A l2 : List ByteArray} (h : ∀ y, y ∈ l2 ↔ y = x ∨ (y ∈ A ∧ Conn l x y)) (hc : ¬ Conn l x e) : ∀ y, y ∈ l2 ↔ y = x ∨ (y ∈ A ++ [e] ∧ Conn l x y) := by
  intro y
  simp only [List.mem_append, List.mem_singleton, h]
  constructor
  · rintro (h1 | ⟨h1, h2⟩)
    · exact .inl h1
    · exact .inr ⟨.inl h1, h2⟩
  · rintro (h1 | ⟨h1 | h1, h2⟩)
    · exact .inl h1
    · exact .inr ⟨h1, h2⟩
    · subst h1; exact absurd h2 hc
theorem mem_done {l : List L3} {x : ByteArray} {l1 ys : List ByteArray} (h : ∀ y, y ∈ l1 ↔ y = x ∨ (y ∈ Lk.ids l ∧ Conn l x y)) (ha : Asc ys) (hy : ∀ y, y ∈ ys ↔ y ∈ l1) : IsMem l x ys := by
  refine ⟨ha, fun y => ?_⟩
  rw [hy, h]
  constructor
  · rintro (rfl | ⟨_, h2⟩)
    · exact Conn.refl l _
    · exact h2
  · intro hc
    rcases hc.ids with h1 | h1
    · exact .inl h1.symm
    · exact .inr ⟨h1, hc⟩

/-! ### Links up to a time; the forest -/
def upto (t : Int) (l : List L3) : List L3 := l.filter fun e => decide (e.2.2 ≤ t)
theorem upto_in {t : Int} {l : List L3} {e : L3} (h : e.2.2 ≤ t) : upto t (l ++ [e]) = upto t l ++ [e] := by simp [upto, h]
theorem upto_out {t : Int} {l : List L3} {e : L3} (h : ¬ e.2.2 ≤ t) : upto t (l ++ [e]) = upto t l := by simp [upto]; omega
theorem upto_len (t : Int) (l : List L3) : (upto t l).length ≤ l.length := List.length_filter_le _ _
open Classical in
noncomputable def fo (l : List L3) : Nat → List L3
  | 0 => []
  | n + 1 => match l[n]? with
    | some e => if Conn (l.take n) e.1 e.2.1 then fo l n else fo l n ++ [e]
    | none => fo l n
theorem fo_in {l : List L3} {n : Nat} {e : L3} (h : l[n]? = some e) (hc : ¬ Conn (l.take n) e.1 e.2.1) : fo l (n + 1) = fo l n ++ [e] := by rw [fo, h]; exact if_neg hc
theorem fo_out {l : List L3} {n : Nat} {e : L3} (h : l[n]? = some e) (hc : Conn (l.take n) e.1 e.2.1) : fo l (n + 1) = fo l n := by rw [fo, h]; exact if_pos hc
theorem fo_len (l : List L3) (n : Nat) : (fo l n).length ≤ n := by
  induction n with
  | zero => simp [fo]
  | succ n ih =>
    rw [fo]
    split
    · split
      · omega
      · simp; omega
    · omega
theorem take_one {l : List L3} {n : Nat} {e : L3} (h : l[n]? = some e) : l.take (n + 1) = l.take n ++ [e] := by
  rw [List.take_add_one, h]; rfl
theorem fo_conn (l : List L3) (n : Nat) (x y : ByteArray) : Conn (fo l n) x y ↔ Conn (l.take n) x y := by
  induction n generalizing x y with
  | zero => simp [fo]
  | succ n ih =>
    rcases h : l[n]? with _ | e
    · have e1 : fo l (n + 1) = fo l n := by rw [fo, h]
      have hn : l.length ≤ n := List.getElem?_eq_none_iff.1 h
      rw [e1, ih, List.take_of_length_le hn, List.take_of_length_le (show l.length ≤ n + 1 by omega)]
    · rw [take_one h]
      by_cases hc : Conn (l.take n) e.1 e.2.1
      · rw [fo_out h hc, ih, conn_snoc]
        constructor
        · exact .inl
        · rintro (h1 | ⟨h1, h2⟩ | ⟨h1, h2⟩)
          · exact h1
          · exact h1.trans (hc.trans h2)
          · exact h1.trans (hc.symm.trans h2)
      · rw [fo_in h hc, conn_snoc, conn_snoc]
        simp only [ih]

/-! ### Over a link -/
/-- The id to which a link leads from an id. -/
def oth (q : L3) (x : ByteArray) : Option ByteArray := if x = q.1 then some q.2.1 else if x = q.2.1 then some q.1 else none
theorem oth_joins {q : L3} {x y : ByteArray} (h : oth q x = some y) : joins q x y := by
  unfold oth at h
  split at h
  · cases h; subst_vars; exact .inl ⟨rfl, rfl⟩
  · split at h
    · cases h; subst_vars; exact .inr ⟨rfl, rfl⟩
    · cases h
theorem joins_oth {q : L3} {x y : ByteArray} (h : joins q x y) : ∃ z, oth q x = some z ∧ (z = y ∨ x = y) := by
  unfold oth
  rcases h with ⟨rfl, rfl⟩ | ⟨h1, h2⟩
  · exact ⟨_, if_pos rfl, .inl rfl⟩
  · by_cases hx : x = q.1
    · exact ⟨_, if_pos hx, .inr (by rw [hx, h1])⟩
    · exact ⟨q.1, by rw [if_neg hx, if_pos h2.symm], .inl h1⟩

theorem insert_ok {l : List ByteArray} {s : ByteArray} {k : Nat} (ha : Asc l) (hs : s ∉ l) (hb : ∀ y ∈ l.take k, blt y s) (hn : ∀ x, l[k]? = some x → ¬ blt x s) :
    Asc ((l.take k ++ [s]) ++ l.drop k) ∧ ∀ y, y ∈ (l.take k ++ [s]) ++ l.drop k ↔ y = s ∨ y ∈ l := by
  have hsplit : l = l.take k ++ l.drop k := (List.take_append_drop k l).symm
  have hpw : (l.take k ++ l.drop k).Pairwise blt := by rw [← hsplit]; exact ha
  obtain ⟨p1, p2, p3⟩ := List.pairwise_append.1 hpw
  have hafter : ∀ y ∈ l.drop k, blt s y := by
    intro y hy
    cases hd : l.drop k with
    | nil => rw [hd] at hy; cases hy
    | cons x r =>
      have hx : l[k]? = some x := by
        have : (l.drop k)[0]? = some x := by rw [hd]; rfl
        rwa [List.getElem?_drop, Nat.add_zero] at this
      have hsx : blt s x := Classical.byContradiction fun hc => hs (by
        have : x = s := blt_tri (hn x hx) hc
        rw [← this]; exact List.mem_of_getElem? hx)
      rw [hd] at hy p2
      rcases List.mem_cons.1 hy with rfl | hy
      · exact hsx
      · exact blt_trans hsx ((List.pairwise_cons.1 p2).1 y hy)
  refine ⟨?_, fun y => ?_⟩
  · show ((l.take k ++ [s]) ++ l.drop k).Pairwise blt
    rw [List.append_assoc]
    refine List.pairwise_append.2 ⟨p1, ?_, ?_⟩
    · rw [List.singleton_append]
      exact List.pairwise_cons.2 ⟨hafter, p2⟩
    · intro a h1 b h2
      rw [List.singleton_append] at h2
      rcases List.mem_cons.1 h2 with rfl | h2
      · exact hb a h1
      · exact p3 a h1 b h2
  · conv => rhs; rw [hsplit]
    simp only [List.mem_append, List.mem_singleton]
    constructor
    · rintro ((h1 | h1) | h1)
      · exact .inr (.inl h1)
      · exact .inl h1
      · exact .inr (.inr h1)
    · rintro (h1 | h1 | h1)
      · exact .inl (.inr h1)
      · exact .inl (.inl h1)
      · exact .inr h1

/-! ### The members by growing a list -/
def Closed (l : List L3) (ys : List ByteArray) (n : Nat) : Prop := ∀ (j : Nat) e, j < n → l[j]? = some e → (e.1 ∈ ys ↔ e.2.1 ∈ ys)
theorem closed_mem {l : List L3} {x : ByteArray} {ys : List ByteArray} (ha : Asc ys) (hx : x ∈ ys) (hc : ∀ y ∈ ys, Conn l x y) (hcl : Closed l ys l.length) : IsMem l x ys := by
  refine ⟨ha, fun y => ⟨hc y, fun h => ?_⟩⟩
  refine h (fun y => y ∈ ys) hx fun e he a b hj ha => ?_
  obtain ⟨j, hj'⟩ := List.mem_iff_getElem?.1 he
  have := hcl j e (List.getElem?_eq_some_iff.1 hj').1 hj'
  rcases hj with ⟨rfl, rfl⟩ | ⟨rfl, rfl⟩
  · exact this.1 ha
  · exact this.2 ha
theorem asc_nodup {ys : List ByteArray} (h : Asc ys) : ys.Nodup := h.imp fun hlt => blt_ne hlt
theorem nodup_len : ∀ {ys zs : List ByteArray}, ys.Nodup → (∀ y ∈ ys, y ∈ zs) → ys.length ≤ zs.length
  | [], _, _, _ => Nat.zero_le _
  | y :: ys, zs, hn, hs => by
    obtain ⟨h1, h2⟩ := List.nodup_cons.1 hn
    have hy : y ∈ zs := hs y (by simp)
    have h3 := nodup_len (zs := zs.filter fun u => decide (u ≠ y)) h2 fun u hu => List.mem_filter.2 ⟨hs u (by simp [hu]), by
      simp only [ne_eq, decide_not, Bool.not_eq_eq_eq_not, Bool.not_true, decide_eq_false_iff_not]
      intro e; subst e; exact h1 hu⟩
    have h4 := filter_lt zs (fun u => decide (u ≠ y)) (fun _ => true) (fun _ _ => rfl) hy rfl (by simp)
    have h5 : (zs.filter fun _ => true) = zs := List.filter_eq_self.2 fun _ _ => rfl
    rw [h5] at h4
    rw [List.length_cons]
    omega
/-- A list of members is no longer than the ids. -/
theorem mem_len {l : List L3} {x : ByteArray} {ys : List ByteArray} (ha : Asc ys) (hc : ∀ y ∈ ys, Conn l x y) : ys.length ≤ 1 + 2 * l.length := by
  have hsub : ∀ y ∈ ys, y ∈ x :: Lk.ids l := fun y hy => by
    rcases (hc y hy).ids with h | h
    · simp [h]
    · simp [h]
  have hlen : (x :: Lk.ids l).length = 1 + 2 * l.length := by
    clear hsub hc
    induction l with
    | nil => rfl
    | cons e l ih => simp only [Lk.ids, List.flatMap_cons, List.length_cons, List.length_append] at *; simp at *; omega
  rw [← hlen]
  exact nodup_len (asc_nodup ha) hsub
#print axioms Good.join
end Go.Fl.Lk
