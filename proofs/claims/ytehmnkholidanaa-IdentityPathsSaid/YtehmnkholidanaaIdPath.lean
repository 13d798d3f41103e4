/- The plain law of links between ids: distances and shortest paths. Conditions: none; no program is in sight. -/
import Derived.Test.YtehmnkholidanaaIdLaw
namespace Go.Fl.Lk

/-- A walk of n links from an id to b. -/
inductive Wk (l : List L3) (b : ByteArray) : ByteArray → Nat → Prop
  | zero : Wk l b b 0
  | step {e : L3} {x y : ByteArray} {n : Nat} : e ∈ l → joins e x y → Wk l b y n → Wk l b x (n + 1)
theorem wk0 {l : List L3} {b x : ByteArray} (h : Wk l b x 0) : x = b := by cases h; rfl
theorem wk_succ {l : List L3} {b x : ByteArray} {n : Nat} (h : Wk l b x (n + 1)) : ∃ e ∈ l, ∃ y, joins e x y ∧ Wk l b y n := by
  cases h with
  | step he hj hw => exact ⟨_, he, _, hj, hw⟩
theorem Wk.conn {l : List L3} {b x : ByteArray} {n : Nat} (h : Wk l b x n) : Conn l x b := by
  induction h with
  | zero => exact Conn.refl l b
  | step he hj _ ih => exact (Conn.link he hj).trans ih
theorem Wk.snoc {l : List L3} {b c x : ByteArray} {n : Nat} (h : Wk l b x n) {e : L3} (he : e ∈ l) (hj : joins e b c) : Wk l c x (n + 1) := by
  induction h with
  | zero => exact .step he hj .zero
  | step he' hj' _ ih => exact .step he' hj' ih
theorem Wk.symm {l : List L3} {b x : ByteArray} {n : Nat} (h : Wk l b x n) : Wk l x b n := by
  induction h with
  | zero => exact .zero
  | step he hj _ ih => exact ih.snoc he (joins_symm hj)
theorem Conn.wk {l : List L3} {x b : ByteArray} (h : Conn l x b) : ∃ n, Wk l b x n := by
  have h2 := h.symm
  refine h2 (fun x => ∃ n, Wk l b x n) ⟨0, .zero⟩ fun e he y z hj => ?_
  rintro ⟨n, hn⟩
  exact ⟨n + 1, .step he (joins_symm hj) hn⟩
def IsDist (l : List L3) (x b : ByteArray) (n : Nat) : Prop := Wk l b x n ∧ ∀ m, Wk l b x m → n ≤ m
theorem IsDist.unique {l : List L3} {x b : ByteArray} {n m : Nat} (h : IsDist l x b n) (k : IsDist l x b m) : n = m := by
  have := h.2 m k.1; have := k.2 n h.1; omega
theorem least_nat {p : Nat → Prop} : ∀ {n : Nat}, p n → ∃ m, p m ∧ ∀ k, p k → m ≤ k := by
  intro n
  induction n using Nat.strongRecOn with
  | _ n ih =>
    intro h
    by_cases hl : ∃ m, m < n ∧ p m
    · obtain ⟨m, h1, h2⟩ := hl; exact ih m h1 h2
    · exact ⟨n, h, fun k hk => by
        rcases Nat.lt_or_ge k n with h1 | h1
        · exact absurd ⟨k, h1, hk⟩ hl
        · exact h1⟩
theorem Wk.dist {l : List L3} {x b : ByteArray} {n : Nat} (h : Wk l b x n) : ∃ m, m ≤ n ∧ IsDist l x b m := by
  obtain ⟨m, h1, h2⟩ := least_nat (p := fun n => Wk l b x n) h
  exact ⟨m, h2 n h, h1, h2⟩
theorem Conn.dist {l : List L3} {x b : ByteArray} (h : Conn l x b) : ∃ n, IsDist l x b n := by
  obtain ⟨n, hn⟩ := h.wk
  obtain ⟨m, _, hm⟩ := hn.dist
  exact ⟨m, hm⟩
theorem IsDist.zero {l : List L3} {x b : ByteArray} : IsDist l x b 0 ↔ x = b :=
  ⟨fun h => wk0 h.1, fun h => by subst h; exact ⟨.zero, fun _ _ => Nat.zero_le _⟩⟩
theorem IsDist.symm {l : List L3} {x b : ByteArray} {n : Nat} (h : IsDist l x b n) : IsDist l b x n := ⟨h.1.symm, fun m hm => h.2 m hm.symm⟩
/-- The next id on a shortest walk. -/
theorem IsDist.next {l : List L3} {x b : ByteArray} {n : Nat} (h : IsDist l x b (n + 1)) : ∃ e ∈ l, ∃ y, oth e x = some y ∧ IsDist l y b n := by
  obtain ⟨e, he, y, hj, hw⟩ := wk_succ h.1
  have hy : IsDist l y b n := ⟨hw, fun m hm => by have := h.2 (m + 1) (.step he hj hm); omega⟩
  obtain ⟨z, hz, h1 | h1⟩ := joins_oth hj
  · subst h1; exact ⟨e, he, z, hz, hy⟩
  · subst h1
    have := h.2 n hw
    omega
theorem IsDist.near {l : List L3} {x y b : ByteArray} {n m : Nat} (h : IsDist l x b n) (k : IsDist l y b m) {e : L3} (he : e ∈ l) (hj : joins e x y) : m ≤ n + 1 :=
  k.2 _ (.step he (joins_symm hj) h.1)

/-! ### The first of the shortest paths -/
inductive Gp (l : List L3) (b : ByteArray) : ByteArray → List L3 → Prop
  | done : Gp l b b []
  | step {i : Nat} {e : L3} {x y : ByteArray} {n : Nat} {p : List L3} : l[i]? = some e → oth e x = some y → IsDist l x b (n + 1) → IsDist l y b n →
      (∀ j, j < i → ∀ e', l[j]? = some e' → ∀ y', oth e' x = some y' → ¬ IsDist l y' b n) → Gp l b y p → Gp l b x (e :: p)
theorem Gp.unique {l : List L3} {b x : ByteArray} {p q : List L3} (h : Gp l b x p) (k : Gp l b x q) : p = q := by
  induction h generalizing q with
  | done =>
    cases k with
    | done => rfl
    | step _ _ hd _ _ _ => have := (IsDist.zero (l := l)).2 (rfl : b = b); have := this.unique hd; omega
  | @step i e x y n p h1 h2 h3 h4 h5 h6 ih =>
    cases k with
    | done => have := (IsDist.zero (l := l)).2 (rfl : b = b); have := this.unique h3; omega
    | @step i' e' _ y' n' p' k1 k2 k3 k4 k5 k6 =>
      have hn := h3.unique k3
      have hn : n = n' := by omega
      subst hn
      have hi : i = i' := by
        rcases Nat.lt_trichotomy i i' with h | h | h
        · exact absurd h4 (k5 i h e h1 y h2)
        · exact h
        · exact absurd k4 (h5 i' h e' k1 y' k2)
      subst hi
      rw [h1] at k1; cases k1
      rw [h2] at k2; cases k2
      rw [ih k6]
theorem Gp.mem {l : List L3} {b x : ByteArray} {p : List L3} (h : Gp l b x p) : ∀ e ∈ p, e ∈ l := by
  induction h with
  | done => simp
  | step h1 _ _ _ _ _ ih =>
    intro e he
    rcases List.mem_cons.1 he with rfl | he
    · exact List.mem_of_getElem? h1
    · exact ih e he
theorem Gp.len {l : List L3} {b x : ByteArray} {p : List L3} (h : Gp l b x p) : IsDist l x b p.length := by
  induction h with
  | done => exact IsDist.zero.2 rfl
  | step _ _ h3 h4 _ _ ih => rw [h4.unique ih] at h3; exact h3
/-- The ids over which a path leads. -/
inductive Over (b : ByteArray) : ByteArray → List L3 → List ByteArray → Prop
  | done : Over b b [] [b]
  | step {e : L3} {x y : ByteArray} {p : List L3} {vs : List ByteArray} : oth e x = some y → x ∉ vs → Over b y p vs → Over b x (e :: p) (x :: vs)
theorem Gp.over {l : List L3} {b x : ByteArray} {p : List L3} (h : Gp l b x p) : ∃ vs, Over b x p vs ∧ ∀ v ∈ vs, ∃ m, m ≤ p.length ∧ IsDist l v b m := by
  induction h with
  | done => exact ⟨[b], .done, fun v hv => by simp at hv; subst hv; exact ⟨0, by simp, IsDist.zero.2 rfl⟩⟩
  | @step i e x y n p h1 h2 h3 h4 h5 h6 ih =>
    obtain ⟨vs, ho, hv⟩ := ih
    have hl : n = p.length := h4.unique h6.len
    refine ⟨x :: vs, .step h2 (fun hx => ?_) ho, fun v hv' => ?_⟩
    · obtain ⟨m, hm, hd⟩ := hv x hx
      have := hd.unique h3
      omega
    · rcases List.mem_cons.1 hv' with rfl | hv'
      · exact ⟨n + 1, by simp; omega, h3⟩
      · obtain ⟨m, hm, hd⟩ := hv v hv'
        exact ⟨m, by simp; omega, hd⟩
theorem Over.head {b x : ByteArray} {p : List L3} {vs : List ByteArray} (h : Over b x p vs) : x ∈ vs := by cases h <;> simp
theorem Over.last {b x : ByteArray} {p : List L3} {vs : List ByteArray} (h : Over b x p vs) : b ∈ vs := by
  induction h with
  | done => simp
  | step _ _ _ ih => simp [ih]
theorem Over.ends {b x : ByteArray} {p : List L3} {vs : List ByteArray} (h : Over b x p vs) : ∀ e ∈ p, e.1 ∈ vs ∧ e.2.1 ∈ vs := by
  induction h with
  | done => simp
  | step h1 _ ho ih =>
    intro e he
    rcases List.mem_cons.1 he with rfl | he
    · have hy := ho.head
      rcases oth_joins h1 with ⟨h2, h3⟩ | ⟨h2, h3⟩
      · rw [h2, h3]; simp [hy]
      · rw [h2, h3]; simp [hy]
    · simp [ih e he]
theorem Over.conn {b x : ByteArray} {p : List L3} {vs : List ByteArray} (h : Over b x p vs) : Conn p x b := by
  induction h with
  | done => exact Conn.refl _ _
  | @step e x y p vs h1 _ _ ih => exact (Conn.link (l := e :: p) (by simp) (oth_joins h1)).trans (ih.mono fun e he => by simp [he])
/-- No link of a path can be left out. -/
theorem Over.cut {b x : ByteArray} {p : List L3} {vs : List ByteArray} (h : Over b x p vs) : ∀ (i : Nat), i < p.length → ¬ Conn (p.take i ++ p.drop (i + 1)) x b := by
  induction h with
  | done => intro i hi; simp at hi
  | @step e x y p vs h1 hx ho ih =>
    intro i hi hc
    cases i with
    | zero =>
      simp only [List.take_zero, List.nil_append, List.drop_succ_cons, List.drop_zero] at hc
      have hb : b ∈ vs := ho.last
      have : b = x := hc (fun z => z = x) rfl fun e' he a c hj ha => by
        exfalso
        subst ha
        have he2 := ho.ends e' he
        rcases hj with ⟨h2, _⟩ | ⟨_, h2⟩
        · exact hx (h2 ▸ he2.1)
        · exact hx (h2 ▸ he2.2)
      exact hx (this ▸ hb)
    | succ i =>
      simp only [List.take_succ_cons, List.drop_succ_cons, List.cons_append, List.length_cons] at hc hi
      refine ih i (by omega) ?_
      have hne : x ≠ b := fun e => hx (e ▸ ho.last)
      -- every id that is joined to y by the rest, or is x
      have hs := hc (fun z => (z = x) ∨ Conn (p.take i ++ p.drop (i + 1)) y z) (.inl rfl) fun e' he a c hj ha => by
        rcases List.mem_cons.1 he with rfl | he
        · have hj1 := oth_joins h1
          rcases ha with rfl | ha
          · -- a = x: the other end is y or x
            rcases hj1 with ⟨h2, h3⟩ | ⟨h2, h3⟩ <;> rcases hj with ⟨h4, h5⟩ | ⟨h4, h5⟩
            · exact .inr (by rw [← h5, h3]; exact Conn.refl _ _)
            · exact .inl (by rw [← h4, h2])
            · exact .inl (by rw [← h5, h3])
            · exact .inr (by rw [← h4, h2]; exact Conn.refl _ _)
          · rcases hj1 with ⟨h2, h3⟩ | ⟨h2, h3⟩ <;> rcases hj with ⟨h4, h5⟩ | ⟨h4, h5⟩
            · exact .inr (by rw [← h5, h3]; exact Conn.refl _ _)
            · exact .inl (by rw [← h4, h2])
            · exact .inl (by rw [← h5, h3])
            · exact .inr (by rw [← h4, h2]; exact Conn.refl _ _)
        · rcases ha with rfl | ha
          · exfalso
            have he' : e' ∈ p := by
              rcases List.mem_append.1 he with he | he
              · exact List.mem_of_mem_take he
              · exact List.mem_of_mem_drop he
            have he2 := ho.ends e' he'
            rcases hj with ⟨h2, _⟩ | ⟨_, h2⟩
            · exact hx (h2 ▸ he2.1)
            · exact hx (h2 ▸ he2.2)
          · exact .inr (ha.trans (Conn.link he hj))
      rcases hs with hs | hs
      · exact absurd hs.symm hne
      · exact hs

/-! ### All distances, level by level -/
/-- What is known of the distances when the ids of level d are looked at: those up to d, and some of d + 1. -/
structure Lev (l : List L3) (b : ByteArray) (F : ByteArray → Option Nat) (d : Nat) (next ks : List ByteArray) : Prop where
  sound : ∀ x n, F x = some n → IsDist l x b n ∧ n ≤ d + 1
  all : ∀ x n, IsDist l x b n → n ≤ d → F x = some n
  new : ∀ x, x ∈ next ↔ F x = some (d + 1)
  keys : ks.Nodup ∧ ∀ x, x ∈ ks ↔ (F x).isSome = true
theorem lev_keys_len {l : List L3} {b : ByteArray} {F : ByteArray → Option Nat} {d : Nat} {next ks : List ByteArray} (h : Lev l b F d next ks) : ks.length ≤ 1 + 2 * l.length := by
  have hsub : ∀ y ∈ ks, y ∈ b :: Lk.ids l := fun y hy => by
    have h1 := (h.keys.2 y).1 hy
    obtain ⟨n, hn⟩ := Option.isSome_iff_exists.1 h1
    rcases (h.sound y n hn).1.1.conn.symm.ids with h2 | h2
    · simp [h2]
    · simp [h2]
  have hlen : (b :: Lk.ids l).length = 1 + 2 * l.length := by
    clear hsub h
    induction l with
    | nil => rfl
    | cons e l ih => simp only [Lk.ids, List.flatMap_cons, List.length_cons, List.length_append] at *; simp at *; omega
  rw [← hlen]
  exact nodup_len h.keys.1 hsub
/-- A new id at the end of a link from level d. -/
theorem Lev.add {l : List L3} {b : ByteArray} {F : ByteArray → Option Nat} {d : Nat} {next ks : List ByteArray} (h : Lev l b F d next ks) {e : L3} (he : e ∈ l) {x y : ByteArray} (hx : F x = some d) (ho : oth e x = some y) (hy : F y = none) :
    Lev l b (fun q => if q = y then some (d + 1) else F q) d (next ++ [y]) (ks ++ [y]) := by
  have hj := oth_joins ho
  have hdx := (h.sound x d hx).1
  obtain ⟨m, hm, hd⟩ := (Wk.step he (joins_symm hj) hdx.1 |> fun (w : Wk l b y (d + 1)) => w).dist
  have hmd : m = d + 1 := by
    rcases Nat.lt_or_ge m (d + 1) with h1 | h1
    · have := h.all y m hd (by omega)
      rw [hy] at this; cases this
    · omega
  subst hmd
  refine ⟨fun z n hz => ?_, fun z n hz hn => ?_, fun z => ?_, ?_, fun z => ?_⟩
  · by_cases hzy : z = y
    · subst hzy; simp at hz; subst hz; exact ⟨hd, Nat.le_refl _⟩
    · simp [hzy] at hz; exact h.sound z n hz
  · by_cases hzy : z = y
    · subst hzy; have := hz.unique hd; omega
    · simp [hzy]; exact h.all z n hz hn
  · by_cases hzy : z = y
    · subst hzy; simp
    · simp [hzy]; exact h.new z
  · refine List.nodup_append.2 ⟨h.keys.1, by simp, fun a ha c hc => ?_⟩
    simp at hc; subst hc
    intro e; subst e
    have := (h.keys.2 a).1 ha
    rw [hy] at this; cases this
  · by_cases hzy : z = y
    · subst hzy; simp
    · simp [hzy]; exact h.keys.2 z
/-- All links of all ids of level d are looked at. -/
def Seen (l : List L3) (F : ByteArray → Option Nat) (lev : List ByteArray) (i j : Nat) : Prop :=
  ∀ (k m : Nat) x e y, lev[k]? = some x → l[m]? = some e → oth e x = some y → (k < i ∨ (k = i ∧ m < j)) → (F y).isSome = true
theorem Seen.put {l : List L3} {F : ByteArray → Option Nat} {lev : List ByteArray} {i j : Nat} (h : Seen l F lev i j) (y : ByteArray) (d : Nat) : Seen l (fun q => if q = y then some d else F q) lev i j := fun k m x e z hk hm ho hlt => by
  by_cases hzy : z = y
  · simp [hzy]
  · simp [hzy]; exact h k m x e z hk hm ho hlt
theorem Seen.step {l : List L3} {F : ByteArray → Option Nat} {lev : List ByteArray} {i j : Nat} (h : Seen l F lev i j) {x : ByteArray} {e : L3} (hx : lev[i]? = some x) (he : l[j]? = some e) (hy : ∀ y, oth e x = some y → (F y).isSome = true) : Seen l F lev i (j + 1) := fun k m x' e' y hk hm ho hlt => by
  by_cases hc : k = i ∧ m = j
  · obtain ⟨rfl, rfl⟩ := hc
    rw [hx] at hk; cases hk
    rw [he] at hm; cases hm
    exact hy y ho
  · exact h k m x' e' y hk hm ho (by omega)
theorem Seen.next {l : List L3} {F : ByteArray → Option Nat} {lev : List ByteArray} {i j : Nat} (h : Seen l F lev i j) (hj : l.length ≤ j) : Seen l F lev (i + 1) 0 := fun k m x' e' y hk hm ho hlt => by
  have := (List.getElem?_eq_some_iff.1 hm).1
  exact h k m x' e' y hk hm ho (by omega)
theorem Lev.next {l : List L3} {b : ByteArray} {F : ByteArray → Option Nat} {d : Nat} {lev next ks : List ByteArray} (h : Lev l b F d next ks) (hl : ∀ x, IsDist l x b d → x ∈ lev) (hs : Seen l F lev lev.length 0) :
    (∀ x n, IsDist l x b n → n ≤ d + 1 → F x = some n) ∧ ∀ x, IsDist l x b (d + 1) → x ∈ next := by
  have key : ∀ x, IsDist l x b (d + 1) → F x = some (d + 1) := fun x hx => by
    obtain ⟨e, he, y, ho, hy⟩ := hx.next
    have hly := hl y hy
    obtain ⟨k, hk⟩ := List.mem_iff_getElem?.1 hly
    obtain ⟨m, hm⟩ := List.mem_iff_getElem?.1 he
    obtain ⟨z, hz, h1 | h1⟩ := joins_oth (joins_symm (oth_joins ho))
    · subst h1
      obtain ⟨n, hn⟩ := Option.isSome_iff_exists.1 (hs k m y e z hk hm hz (.inl (List.getElem?_eq_some_iff.1 hk).1))
      have := (h.sound z n hn).1.unique hx
      subst this; exact hn
    · subst h1
      have := hx.unique hy
      omega
  refine ⟨fun x n hx hn => ?_, fun x hx => (h.new x).2 (key x hx)⟩
  by_cases hnd : n = d + 1
  · subst hnd; exact key x hx
  · exact h.all x n hx (by omega)
/-- At the start of level d + 1. -/
theorem Lev.up {l : List L3} {b : ByteArray} {F : ByteArray → Option Nat} {d : Nat} {lev next ks : List ByteArray} (h : Lev l b F d next ks) (hl : ∀ x, IsDist l x b d → x ∈ lev) (hs : Seen l F lev lev.length 0) : Lev l b F (d + 1) [] ks := by
  obtain ⟨h1, h2⟩ := h.next hl hs
  refine ⟨fun x n hx => ⟨(h.sound x n hx).1, by have := (h.sound x n hx).2; omega⟩, h1, fun x => ?_, h.keys⟩
  simp
  intro hx
  have := (h.sound x _ hx).2
  omega
theorem lev_start (l : List L3) (b : ByteArray) : Lev l b (fun q => if q = b then some 0 else none) 0 [] [b] := by
  refine ⟨fun x n hx => ?_, fun x n hx hn => ?_, fun x => ?_, by simp, fun x => ?_⟩
  · by_cases h : x = b
    · subst h; simp at hx; subst hx; exact ⟨IsDist.zero.2 rfl, by omega⟩
    · simp [h] at hx
  · obtain rfl : n = 0 := by omega
    simp [IsDist.zero.1 hx]
  · by_cases h : x = b <;> simp [h]
  · by_cases h : x = b <;> simp [h]
/-- No id is d links away: all distances are known. -/
theorem Lev.done {l : List L3} {b : ByteArray} {F : ByteArray → Option Nat} {d : Nat} {ks : List ByteArray} (h : Lev l b F d [] ks) (hl : ∀ x, ¬ IsDist l x b d) : ∀ x n, F x = some n ↔ IsDist l x b n := by
  have hno : ∀ n x, d ≤ n → ¬ IsDist l x b n := by
    intro n
    induction n with
    | zero => intro x hn hx; exact hl x (by obtain rfl : d = 0 := by omega
                                            exact hx)
    | succ n ih =>
      intro x hn hx
      by_cases hd : d = n + 1
      · subst hd; exact hl x hx
      · obtain ⟨_, _, y, _, hy⟩ := hx.next
        exact ih y (by omega) hy
  refine fun x n => ⟨fun hx => (h.sound x n hx).1, fun hx => ?_⟩
  rcases Nat.lt_or_ge n d with h1 | h1
  · exact h.all x n hx (by omega)
  · exact absurd hx (hno n x h1)

/-! ### Balls around an id -/
def Ball (l : List L3) (a : ByteArray) (n : Nat) (ys : List ByteArray) : Prop := ys.Nodup ∧ ∀ y, y ∈ ys ↔ ∃ m, m ≤ n ∧ Wk l a y m
theorem ball0 (l : List L3) (a : ByteArray) : Ball l a 0 [a] := by
  refine ⟨by simp, fun y => ?_⟩
  simp
  constructor
  · rintro rfl; exact .zero
  · exact wk0
theorem Ball.len {l : List L3} {a : ByteArray} {ys : List ByteArray} (hn : ys.Nodup) (h : ∀ y ∈ ys, Conn l a y) : ys.length ≤ 1 + 2 * l.length := by
  have hsub : ∀ y ∈ ys, y ∈ a :: Lk.ids l := fun y hy => by
    rcases (h y hy).ids with h | h
    · simp [h]
    · simp [h]
  have hlen : (a :: Lk.ids l).length = 1 + 2 * l.length := by
    clear hsub h
    induction l with
    | nil => rfl
    | cons e l ih => simp only [Lk.ids, List.flatMap_cons, List.length_cons, List.length_append] at *; simp at *; omega
  rw [← hlen]
  exact nodup_len hn hsub
/-- While the links are looked at: more are the reached ids and the other ends of the first k links. -/
structure More (l : List L3) (a : ByteArray) (n : Nat) (reached more : List ByteArray) (k : Nat) : Prop where
  nodup : more.Nodup
  pre : ∃ ext, more = reached ++ ext
  sound : ∀ y ∈ more, ∃ m, m ≤ n + 1 ∧ Wk l a y m
  all : ∀ (j : Nat) e, j < k → l[j]? = some e → (e.1 ∈ reached → e.2.1 ∈ more) ∧ (e.2.1 ∈ reached → e.1 ∈ more)
theorem more0 {l : List L3} {a : ByteArray} {n : Nat} {ys : List ByteArray} (h : Ball l a n ys) : More l a n ys ys 0 :=
  ⟨h.1, ⟨[], by simp⟩, fun y hy => by obtain ⟨m, h1, h2⟩ := (h.2 y).1 hy; exact ⟨m, by omega, h2⟩, fun j e hj => by omega⟩
theorem More.add {l : List L3} {a : ByteArray} {n k : Nat} {ys zs : List ByteArray} (hb : Ball l a n ys) (h : More l a n ys zs k) {e : L3} (he : e ∈ l) {x y : ByteArray} (hj : joins e x y) (hx : x ∈ ys) (hy : y ∉ zs) : More l a n ys (zs ++ [y]) k := by
  obtain ⟨ext, hp⟩ := h.pre
  refine ⟨?_, ⟨ext ++ [y], by rw [hp]; simp⟩, fun z hz => ?_, fun j e' hj' he' => ?_⟩
  · refine List.nodup_append.2 ⟨h.nodup, by simp, fun u hu c hc => ?_⟩
    simp at hc; subst hc
    intro e; subst e; exact hy hu
  · rcases List.mem_append.1 hz with hz | hz
    · exact h.sound z hz
    · simp at hz; subst hz
      obtain ⟨m, h1, h2⟩ := (hb.2 x).1 hx
      exact ⟨m + 1, by omega, .step he (joins_symm hj) h2⟩
  · have := h.all j e' hj' he'
    exact ⟨fun h => by simp [this.1 h], fun h => by simp [this.2 h]⟩
theorem More.step {l : List L3} {a : ByteArray} {n k : Nat} {ys zs : List ByteArray} (h : More l a n ys zs k) {e : L3} (he : l[k]? = some e) (h1 : e.1 ∈ ys → e.2.1 ∈ zs) (h2 : e.2.1 ∈ ys → e.1 ∈ zs) : More l a n ys zs (k + 1) :=
  ⟨h.nodup, h.pre, h.sound, fun j e' hj he' => by
    by_cases hjk : j = k
    · subst hjk; rw [he] at he'; cases he'; exact ⟨h1, h2⟩
    · exact h.all j e' (by omega) he'⟩
theorem More.ball {l : List L3} {a : ByteArray} {n : Nat} {ys zs : List ByteArray} (hb : Ball l a n ys) (h : More l a n ys zs l.length) : Ball l a (n + 1) zs := by
  refine ⟨h.nodup, fun y => ⟨h.sound y, ?_⟩⟩
  rintro ⟨m, hm, hw⟩
  obtain ⟨ext, hp⟩ := h.pre
  cases m with
  | zero => rw [hp]; exact List.mem_append_left _ ((hb.2 y).2 ⟨0, by omega, hw⟩)
  | succ m =>
    obtain ⟨e, he, z, hj, hz⟩ := wk_succ hw
    have hzy := (hb.2 z).2 ⟨m, by omega, hz⟩
    obtain ⟨i, hi⟩ := List.mem_iff_getElem?.1 he
    have := h.all i e (List.getElem?_eq_some_iff.1 hi).1 hi
    rcases hj with ⟨h1, h2⟩ | ⟨h1, h2⟩
    · rw [← h1]; exact this.2 (h2 ▸ hzy)
    · rw [← h2]; exact this.1 (h1 ▸ hzy)
/-- Nothing new: whatever belongs together is reached. -/
theorem More.stop {l : List L3} {a b : ByteArray} {n : Nat} {ys zs : List ByteArray} (hb : Ball l a n ys) (h : More l a n ys zs l.length) (hlen : zs.length = ys.length) (hn : b ∉ ys) : ¬ Conn l a b := by
  obtain ⟨ext, hp⟩ := h.pre
  have hext : ext = [] := by
    rw [hp] at hlen; simp at hlen; exact hlen
  subst hext
  simp at hp; subst hp
  intro hc
  refine hn (hc (fun y => y ∈ zs) ((hb.2 a).2 ⟨0, by omega, .zero⟩) fun e he x y hj hx => ?_)
  obtain ⟨i, hi⟩ := List.mem_iff_getElem?.1 he
  have := h.all i e (List.getElem?_eq_some_iff.1 hi).1 hi
  rcases hj with ⟨h1, h2⟩ | ⟨h1, h2⟩
  · rw [← h2]; exact this.1 (h1 ▸ hx)
  · rw [← h1]; exact this.2 (h2 ▸ hx)
theorem More.grows {l : List L3} {a : ByteArray} {n k : Nat} {ys zs : List ByteArray} (h : More l a n ys zs k) : ys.length ≤ zs.length := by
  obtain ⟨ext, hp⟩ := h.pre
  rw [hp]; simp
theorem Ball.conn {l : List L3} {a : ByteArray} {n : Nat} {ys : List ByteArray} (h : Ball l a n ys) : ∀ y ∈ ys, Conn l a y := fun y hy => by
  obtain ⟨m, _, hw⟩ := (h.2 y).1 hy
  exact hw.conn.symm
theorem More.conn {l : List L3} {a : ByteArray} {n k : Nat} {ys zs : List ByteArray} (h : More l a n ys zs k) : ∀ y ∈ zs, Conn l a y := fun y hy => by
  obtain ⟨m, _, hw⟩ := h.sound y hy
  exact hw.conn.symm
/-- Reached in round n and not before. -/
theorem Ball.dist {l : List L3} {a b : ByteArray} {n : Nat} {ys : List ByteArray} (h : Ball l a n ys) (hb : b ∈ ys) (hno : ∀ m, m < n → ¬ Wk l a b m) : IsDist l a b n := by
  obtain ⟨m, h1, h2⟩ := (h.2 b).1 hb
  have : m = n := by
    rcases Nat.lt_or_ge m n with h3 | h3
    · exact absurd h2 (hno m h3)
    · omega
  subst this
  exact ⟨h2.symm, fun k hk => by
    rcases Nat.lt_or_ge k m with h3 | h3
    · exact absurd hk.symm (hno k h3)
    · exact h3⟩
theorem Ball.not {l : List L3} {a b : ByteArray} {n : Nat} {ys : List ByteArray} (h : Ball l a n ys) (hb : b ∉ ys) : ∀ m, m < n + 1 → ¬ Wk l a b m := fun m hm hw => hb ((h.2 b).2 ⟨m, by omega, hw⟩)

#print axioms Over.cut
#print axioms Lev.done
#print axioms More.stop
end Go.Fl.Lk
