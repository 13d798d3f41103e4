/- Appending a slice that is read; parts of a slice that is read. Conditions: none; every rule speaks of any program. -/
import Derived.Test.YtkfcnibjlmiboaaFlDraw
import Derived.Sort.Walk0
import Derived.MapKept
import GoSem.Instr.MapUpdate
import Derived.Sort.OwnSorted
import Derived.Lib.OwnBridge
import Derived.Lib.SlicesCompact
import Derived.Scope
import Derived.WalkSpells
import Derived.Maps.RangeRun
section
namespace Go.Fl
open Go Go.RowKit

variable {P : Program} {ops : Array Oper} {Q : Exit → Act → World → Prop} {rest : List Oper} {n : Nat} {f : Fr} {w w' : World} {d : Nat} {t : TypeId} {p : String} {af : Array Edge}
variable {c : Cx} {σ : Hv} {ms ms' : List HObj}

theorem run_append_empty (base : Nat) (t ty e : TypeId) (i : TypeInfo) (size cc : Nat) (ht : P.underlying t = some (.slice e)) (hi : P.info? e = some i)
    (v : Value) (n : Nat) (xs : List Value) (hown : w.ownsRow base e size v n xs) :
    (Builtin.append_ #[t, t] ty #[v, .slice none 0 cc]).run P w = .ok v w := by
  rcases hown.2 with ⟨rfl, rfl⟩ | ⟨g, cap, cur, rfl, _, _, hnc, _⟩
  · simp [Builtin.append_, run_underlying ht, sizeOf, typeInfo, hi, Builtin.lenOf, Builtin.firstCells]
  · simp [Builtin.append_, run_underlying ht, sizeOf, typeInfo, hi, Builtin.lenOf, Builtin.firstCells, hnc, storeCells]

theorem flat_row {α : Type} {enc : α → List Value} {size : Nat} (he : ∀ x, (enc x).length = size) {l : List α} {a : Addr} (hel : ∀ (i : Nat) x, l[i]? = some x → VRow σ (a.add (i * size)) (enc x)) : VRow σ a (l.flatMap enc) := by
  intro j v hj
  rcases Nat.eq_zero_or_pos size with h0 | h0
  · exfalso
    have : l.flatMap enc = [] := by
      rw [List.flatMap_eq_nil_iff]
      intro x _
      exact List.eq_nil_of_length_eq_zero (by rw [he, h0])
    rw [this] at hj; simp at hj
  · have hlen : (l.flatMap enc).length = l.length * size := by
      clear hj hel
      induction l with
      | nil => simp
      | cons x l ih => rw [List.flatMap_cons, List.length_append, ih, he, List.length_cons, Nat.succ_mul]; omega
    have hjl : j < l.length * size := by rw [← hlen]; exact (List.getElem?_eq_some_iff.1 hj).1
    have hi : j / size < l.length := (Nat.div_lt_iff_lt_mul h0).2 hjl
    obtain ⟨x, hx⟩ : ∃ x, l[j / size]? = some x := ⟨_, List.getElem?_eq_getElem hi⟩
    have hat := flat_at he hx
    have hv : (enc x)[j % size]? = some v := by
      rw [← hat, List.getElem?_take, if_pos (Nat.mod_lt _ h0), List.getElem?_drop]
      have : j / size * size + j % size = j := by rw [Nat.mul_comm]; exact Nat.div_add_mod j size
      rw [this]; exact hj
    have := hel _ x hx (j % size) v hv
    rw [addr_add] at this
    have e : j / size * size + j % size = j := by rw [Nat.mul_comm]; exact Nat.div_add_mod j size
    rw [e] at this
    exact this

theorem o_append_rd {α : Type} {enc : α → List Value} {st e : TypeId} {x y : Operand} {i : TypeInfo} {z : Value} {size bytes : Nat} (hu : P.underlying st = some (.slice e)) (hi : P.info? e = some i) (hz : i.zero = some z)
    (hsz : i.size = size) (hby : i.bytes = bytes) (hzs : z.cells.size = size) (hpos : 0 < size) {v yv : Value} {k q : Nat} {xs xs' : List Value} {l : List α} {σ1 : Hv} (hS : St c w σ ms) (hx : ev n f x = v) (hq : ms[q]? = some (vec v e size k xs))
    (hy : ev n f y = yv) (hr : RSl size (REnc enc) σ1 yv l) (hV : View σ1 w) (he : ∀ x, (enc x).length = size) (h1 : ∀ x, ∀ u ∈ enc x, u.oneCell' = true) (hb : (k + l.length) * bytes ≤ 140737488355328) (h63 : k + l.length ≤ maxLen)
    (hxs : xs ++ l.flatMap enc = xs') {Ms : Value → List HObj} (hms : ∀ v', ms.set q (vec v' e size (k + l.length) xs') = Ms v')
    (h : ∀ v' w', v'.oneCell' = true → St c w' σ (Ms v') → wpList P ops Q rest (mk n (upd f d v')) w') :
    wpList P ops Q (⟨some d, .call ⟨.builtin .append, #[x, y], #[st, st]⟩, t, p, af, none⟩ :: rest) (mk n f) w := by
  obtain ⟨a, cc, rfl, g1, g2, hel⟩ := hr
  cases a with
  | none =>
    have hl : l = [] := by
      cases l with
      | nil => rfl
      | cons x l => obtain ⟨ad, cs, h0, _⟩ := hel 0 x rfl; cases h0
    subst hl
    have hr := run_append_empty (P := P) (w := w) 0 st t e i size cc hu hi v k xs (hS.get hq)
    simp only [List.flatMap_nil, List.append_nil] at hxs
    subst hxs
    refine o_val (v := v) rfl rfl ?_ (h v w (vec_one (hS.get hq)) ?_)
    · simp only [execOp, resolve, invoke, builtin, Sem.run_bind, Sem.run_pure, Result.andThen_ok, List.map_toArray, List.map_cons, List.map_nil, hx, hy]
      exact (by simp only [List.length_nil] at *; rw [hr]; rfl)
    · rw [← hms v]
      refine hS.step hq (Keeps.refl _ _) (hS.get hq) (fun k hk => .inl hk) rfl hS.view.none_of_ge
  | some ad =>
    have hrow : VRow σ1 ad (l.flatMap enc) := flat_row he fun i x hx => by
      obtain ⟨ad', cs, h0, _, h2, h3⟩ := hel i x hx
      cases h0
      cases h3
      exact h2
    have hlen : (l.flatMap enc).length = l.length * size := by
      clear hrow hel hms hxs hb h63 g1 g2 hy
      induction l with
      | nil => simp
      | cons x l ih => rw [List.flatMap_cons, List.length_append, ih, he, List.length_cons, Nat.succ_mul]; omega
    exact o_append hu hi hz hsz hby hzs hpos hS hx hq hy hlen (hrow.row hV) (fun u hu => by
      obtain ⟨x, _, hx⟩ := List.mem_flatMap.1 hu
      exact h1 x u hx) hb h63 hxs hms h
/-- A later part of a slice that reads. -/
theorem RSl.drop {α : Type} {size : Nat} {R : Hv → List Value → α → Prop} {a : Option Addr} {len cap : Nat} {l : List α} (h : RSl size R σ (.slice a len cap) l) (k : Nat) (hk : k ≤ l.length) :
    RSl size R σ (.slice (if cap = k then a else a.map (·.add (k * size))) (len - k) (cap - k)) (l.drop k) := by
  obtain ⟨a', cap', h1, h2, h3, h4⟩ := h
  cases h1
  refine ⟨_, cap - k, by rw [List.length_drop], by rw [List.length_drop]; omega, by rw [List.length_drop]; omega, fun i x hx => ?_⟩
  rw [List.getElem?_drop] at hx
  have hil : k + i < l.length := (List.getElem?_eq_some_iff.1 hx).1
  obtain ⟨ad, cs, e1, e2, e3, e4⟩ := h4 (k + i) x hx
  subst e1
  refine ⟨ad.add (k * size), cs, by rw [if_neg (by omega)]; rfl, e2, ?_, e4⟩
  rw [addr_add, ← Nat.add_mul]
  exact e3
/-- Back from a wider view. -/
theorem Grow.back {w1 : World} {σ1 σ2 : Hv} (g : Grow [] σ1 w σ2 w1) (hs : Sub σ σ1) : Grow [] σ w σ w1 :=
  ⟨g.keeps, fun b o hb => g.view b o (g.sub b o (hs b o hb)), .refl _, fun _ _ _ => rfl⟩
end Go.Fl
end
/- The plain law of links between ids: components, least ids, forests. Conditions: none; no program is in sight. -/
section
namespace Go.Fl.Lk

/-! ### The order of texts -/
def blt (x y : ByteArray) : Prop := x.data.toList < y.data.toList
instance (x y : ByteArray) : Decidable (blt x y) := by unfold blt; infer_instance
theorem data_inj {x y : ByteArray} (h : x.data.toList = y.data.toList) : x = y := by
  cases x; cases y; simp at h; simp [h]
theorem blt_irrefl (x : ByteArray) : ¬ blt x x := List.lt_irrefl _
theorem blt_trans {x y z : ByteArray} (h : blt x y) (k : blt y z) : blt x z := List.lt_trans h k
theorem blt_tri {x y : ByteArray} (h : ¬ blt x y) (k : ¬ blt y x) : x = y := data_inj (List.le_antisymm k h)
theorem blt_asymm {x y : ByteArray} (h : blt x y) : ¬ blt y x := fun k => blt_irrefl _ (blt_trans h k)
theorem blt_ne {x y : ByteArray} (h : blt x y) : x ≠ y := fun e => blt_irrefl y (e ▸ h)

/-! ### Components -/
/-- A link: its two ids and its time. -/
abbrev L3 := ByteArray × ByteArray × Int
def joins (e : L3) (y z : ByteArray) : Prop := (e.1 = y ∧ e.2.1 = z) ∨ (e.1 = z ∧ e.2.1 = y)
theorem joins_symm {e : L3} {y z : ByteArray} (h : joins e y z) : joins e z y := h.symm
def Conn (l : List L3) (x y : ByteArray) : Prop := ∀ p : ByteArray → Prop, p x → (∀ e ∈ l, ∀ a b, joins e a b → p a → p b) → p y
theorem Conn.refl (l : List L3) (x : ByteArray) : Conn l x x := fun _ h _ => h
theorem Conn.trans {l : List L3} {x y z : ByteArray} (h : Conn l x y) (k : Conn l y z) : Conn l x z := fun p hp st => k p (h p hp st) st
theorem Conn.link {l : List L3} {e : L3} (h : e ∈ l) {x y : ByteArray} (hj : joins e x y) : Conn l x y := fun _ hp st => st e h x y hj hp
theorem Conn.symm {l : List L3} {x y : ByteArray} (h : Conn l x y) : Conn l y x :=
  h (fun y => Conn l y x) (Conn.refl l x) fun _ he _ _ hj hp => (Conn.link he (joins_symm hj)).trans hp
theorem Conn.mono {l k : List L3} {x y : ByteArray} (h : Conn l x y) (hs : ∀ e ∈ l, e ∈ k) : Conn k x y := fun p hp st => h p hp fun e he => st e (hs e he)
theorem Conn.iff_of {l k : List L3} (hs : ∀ e ∈ l, ∀ a b, joins e a b → Conn k a b) {x y : ByteArray} (h : Conn l x y) : Conn k x y :=
  h (fun y => Conn k x y) (Conn.refl k x) fun e he a b hj hp => hp.trans (hs e he a b hj)
/-- One more link. -/
theorem conn_snoc (l : List L3) (e : L3) (x y : ByteArray) : Conn (l ++ [e]) x y ↔ Conn l x y ∨ (Conn l x e.1 ∧ Conn l e.2.1 y) ∨ (Conn l x e.2.1 ∧ Conn l e.1 y) := by
  constructor
  · intro h
    refine h (fun y => Conn l x y ∨ (Conn l x e.1 ∧ Conn l e.2.1 y) ∨ (Conn l x e.2.1 ∧ Conn l e.1 y)) (.inl (Conn.refl l x)) fun k hk a b hj hp => ?_
    rcases List.mem_append.1 hk with hk | hk
    · have hab := Conn.link hk hj
      rcases hp with hp | ⟨h1, h2⟩ | ⟨h1, h2⟩
      · exact .inl (hp.trans hab)
      · exact .inr (.inl ⟨h1, h2.trans hab⟩)
      · exact .inr (.inr ⟨h1, h2.trans hab⟩)
    · simp only [List.mem_singleton] at hk
      subst hk
      rcases hj with ⟨rfl, rfl⟩ | ⟨rfl, rfl⟩
      · rcases hp with hp | ⟨h1, h2⟩ | ⟨h1, h2⟩
        · exact .inr (.inl ⟨hp, Conn.refl _ _⟩)
        · exact .inr (.inl ⟨h1, Conn.refl _ _⟩)
        · exact .inl h1
      · rcases hp with hp | ⟨h1, h2⟩ | ⟨h1, h2⟩
        · exact .inr (.inr ⟨hp, Conn.refl _ _⟩)
        · exact .inl h1
        · exact .inr (.inr ⟨h1, Conn.refl _ _⟩)
  · have hin : Conn (l ++ [e]) e.1 e.2.1 := Conn.link (by simp) (.inl ⟨rfl, rfl⟩)
    have hm : ∀ {a b}, Conn l a b → Conn (l ++ [e]) a b := fun h => h.mono fun k hk => by simp [hk]
    rintro (h | ⟨h1, h2⟩ | ⟨h1, h2⟩)
    · exact hm h
    · exact (hm h1).trans (hin.trans (hm h2))
    · exact (hm h1).trans (hin.symm.trans (hm h2))
def ids (l : List L3) : List ByteArray := l.flatMap fun e => [e.1, e.2.1]
theorem mem_ids {l : List L3} {e : L3} (h : e ∈ l) : e.1 ∈ ids l ∧ e.2.1 ∈ ids l := by
  unfold ids
  constructor <;> exact List.mem_flatMap.2 ⟨e, h, by simp⟩
theorem ids_snoc (l : List L3) (e : L3) : ids (l ++ [e]) = ids l ++ [e.1, e.2.1] := by simp [ids]
theorem Conn.ids {l : List L3} {x y : ByteArray} (h : Conn l x y) : x = y ∨ y ∈ ids l := by
  refine h (fun y => x = y ∨ y ∈ Lk.ids l) (.inl rfl) fun e he a b hj _ => .inr ?_
  rcases hj with ⟨_, rfl⟩ | ⟨rfl, _⟩
  · exact (mem_ids he).2
  · exact (mem_ids he).1
theorem Conn.ids' {l : List L3} {x y : ByteArray} (h : Conn l x y) (hne : x ≠ y) : x ∈ Lk.ids l ∧ y ∈ Lk.ids l :=
  ⟨(h.symm.ids).resolve_left fun e => hne e.symm, h.ids.resolve_left hne⟩

/-! ### The forest of lesser ids -/
structure Good (l : List L3) (F : ByteArray → Option ByteArray) : Prop where
  less : ∀ x y, F x = some y → blt y x ∧ Conn l x y
  key : ∀ x y, F x = some y → x ∈ ids l
  one : ∀ x y, Conn l x y → F x = none → F y = none → x = y
/-- How many ids do not pass x. -/
def below (l : List L3) (x : ByteArray) : Nat := ((ids l).filter fun y => decide (¬ blt x y)).length
theorem filter_lt {α : Type} (L : List α) (p q : α → Bool) (hpq : ∀ x, p x = true → q x = true) {a : α} (ha : a ∈ L) (hq : q a = true) (hp : p a = false) : (L.filter p).length < (L.filter q).length := by
  induction L with
  | nil => cases ha
  | cons x L ih =>
    have hle : (L.filter p).length ≤ (L.filter q).length := by
      clear ih ha
      induction L with
      | nil => exact Nat.le_refl _
      | cons y L ih =>
        simp only [List.filter_cons]
        by_cases h1 : p y = true
        · simp [h1, hpq y h1]; exact ih
        · by_cases h2 : q y = true
          · simp [h1, h2]; omega
          · simp [h1, h2]; exact ih
    simp only [List.filter_cons]
    rcases List.mem_cons.1 ha with rfl | ha
    · simp [hp, hq]; omega
    · have := ih ha
      by_cases h1 : p x = true
      · simp [h1, hpq x h1]; exact this
      · by_cases h2 : q x = true
        · simp [h1, h2]; omega
        · simp [h1, h2]; exact this
theorem Good.down {l : List L3} {F : ByteArray → Option ByteArray} (h : Good l F) {x y : ByteArray} (hx : F x = some y) : below l y < below l x := by
  have hl := (h.less x y hx).1
  refine filter_lt _ _ _ (fun z hz => ?_) (h.key x y hx) ?_ ?_
  · simp only [decide_eq_true_eq] at hz ⊢
    exact fun hxz => hz (blt_trans hl hxz)
  · simpa using blt_irrefl x
  · simpa using hl
def Least (l : List L3) (x r : ByteArray) : Prop := Conn l x r ∧ ∀ y, Conn l x y → ¬ blt y r
theorem Good.root {l : List L3} {F : ByteArray → Option ByteArray} (h : Good l F) : ∀ (n : Nat) (x : ByteArray), below l x ≤ n → ∃ r, Conn l x r ∧ F r = none ∧ ¬ blt x r
  | 0, x, hn => by
    rcases hx : F x with _ | y
    · exact ⟨x, Conn.refl l x, hx, blt_irrefl x⟩
    · have := h.down hx; omega
  | n + 1, x, hn => by
    rcases hx : F x with _ | y
    · exact ⟨x, Conn.refl l x, hx, blt_irrefl x⟩
    · have hd := h.down hx
      obtain ⟨r, h1, h2, h3⟩ := h.root n y (by omega)
      obtain ⟨h4, h5⟩ := h.less x y hx
      exact ⟨r, h5.trans h1, h2, fun hxr => h3 (blt_trans h4 hxr)⟩
theorem Good.least {l : List L3} {F : ByteArray → Option ByteArray} (h : Good l F) {x r : ByteArray} (hc : Conn l x r) (hr : F r = none) : Least l x r := by
  refine ⟨hc, fun y hy hlt => ?_⟩
  obtain ⟨r', h1, h2, h3⟩ := h.root _ y (Nat.le_refl _)
  have : r = r' := h.one r r' ((hc.symm.trans hy).trans h1) hr h2
  subst this
  exact h3 hlt
theorem Least.unique {l : List L3} {x y r s : ByteArray} (h : Least l x r) (k : Least l y s) (hc : Conn l x y) : r = s :=
  blt_tri (fun hl => k.2 r (hc.symm.trans h.1) hl) (fun hl => h.2 s (hc.trans k.1) hl)
theorem Least.conn {l : List L3} {x y r s : ByteArray} (h : Least l x r) (k : Least l y s) : r = s ↔ Conn l x y :=
  ⟨fun e => by subst e; exact h.1.trans k.1.symm, fun hc => h.unique k hc⟩
theorem good_nil : Good [] (fun _ => none) := ⟨fun _ _ h => by simp at h, fun _ _ h => by simp at h, fun x y h _ _ => h (fun z => x = z) rfl fun e he => by simp at he⟩
/-- A link within a component. -/
theorem Good.same {l : List L3} {F : ByteArray → Option ByteArray} (h : Good l F) {e : L3} (hc : Conn l e.1 e.2.1) : Good (l ++ [e]) F := by
  have hm : ∀ {a b}, Conn l a b → Conn (l ++ [e]) a b := fun h => h.mono fun k hk => by simp [hk]
  refine ⟨fun x y hx => ⟨(h.less x y hx).1, hm (h.less x y hx).2⟩, fun x y hx => by rw [ids_snoc]; simp [h.key x y hx], fun x y hxy => ?_⟩
  refine h.one x y ?_
  rcases (conn_snoc l e x y).1 hxy with h1 | ⟨h1, h2⟩ | ⟨h1, h2⟩
  · exact h1
  · exact h1.trans (hc.trans h2)
  · exact h1.trans (hc.symm.trans h2)
/-- A link between two components: the greater root leads to the lesser one. -/
theorem Good.join {l : List L3} {F : ByteArray → Option ByteArray} (h : Good l F) {e : L3} {x y : ByteArray} (hx : Conn l e.1 x) (hy : Conn l e.2.1 y) (fx : F x = none) (fy : F y = none) {g s : ByteArray}
    (hlt : blt s g) (hgs : (g = x ∧ s = y) ∨ (g = y ∧ s = x)) : Good (l ++ [e]) (fun k => if k = g then some s else F k) := by
  have hm : ∀ {a b}, Conn l a b → Conn (l ++ [e]) a b := fun h => h.mono fun k hk => by simp [hk]
  have hin : Conn (l ++ [e]) e.1 e.2.1 := Conn.link (by simp) (.inl ⟨rfl, rfl⟩)
  have hxy : Conn (l ++ [e]) x y := (hm hx).symm.trans (hin.trans (hm hy))
  refine ⟨fun a b hab => ?_, fun a b hab => ?_, fun a b hab ha hb => ?_⟩
  · by_cases hag : a = g
    · subst hag
      simp at hab; subst hab
      refine ⟨hlt, ?_⟩
      rcases hgs with ⟨rfl, rfl⟩ | ⟨rfl, rfl⟩
      · exact hxy
      · exact hxy.symm
    · simp [hag] at hab
      exact ⟨(h.less a b hab).1, hm (h.less a b hab).2⟩
  · rw [ids_snoc]
    by_cases hag : a = g
    · subst hag
      rcases hgs with ⟨rfl, _⟩ | ⟨rfl, _⟩
      · rcases hx.ids with h1 | h1
        · simp [← h1]
        · simp [h1]
      · rcases hy.ids with h1 | h1
        · simp [← h1]
        · simp [h1]
    · simp [hag] at hab
      simp [h.key a b hab]
  · have hag : a ≠ g := fun e => by subst e; simp at ha
    have hbg : b ≠ g := fun e => by subst e; simp at hb
    simp [hag] at ha
    simp [hbg] at hb
    rcases (conn_snoc l e a b).1 hab with h1 | ⟨h1, h2⟩ | ⟨h1, h2⟩
    · exact h.one a b h1 ha hb
    · have e1 := h.one a x (h1.trans hx) ha fx
      have e2 := h.one b y (h2.symm.trans hy) hb fy
      exfalso
      rcases hgs with ⟨rfl, _⟩ | ⟨rfl, _⟩
      · exact hag e1
      · exact hbg e2
    · have e1 := h.one a y (h1.trans hy) ha fy
      have e2 := h.one b x (h2.symm.trans hx) hb fx
      exfalso
      rcases hgs with ⟨rfl, _⟩ | ⟨rfl, _⟩
      · exact hbg e2
      · exact hag e1

/-! ### The members -/
def Asc (ys : List ByteArray) : Prop := ys.Pairwise blt
def IsMem (l : List L3) (x : ByteArray) (ys : List ByteArray) : Prop := Asc ys ∧ ∀ y, y ∈ ys ↔ Conn l x y
theorem asc_unique : ∀ {ys zs : List ByteArray}, Asc ys → Asc zs → (∀ y, y ∈ ys ↔ y ∈ zs) → ys = zs
  | [], [], _, _, _ => rfl
  | [], z :: zs, _, _, h => by have := (h z).2 (by simp); simp at this
  | y :: ys, [], _, _, h => by have := (h y).1 (by simp); simp at this
  | y :: ys, z :: zs, hy, hz, h => by
    obtain ⟨hy1, hy2⟩ := List.pairwise_cons.1 hy
    obtain ⟨hz1, hz2⟩ := List.pairwise_cons.1 hz
    have e : y = z := by
      rcases List.mem_cons.1 ((h y).1 (by simp)) with e | h1
      · exact e
      · rcases List.mem_cons.1 ((h z).2 (by simp)) with e | h2
        · exact e.symm
        · exact absurd (blt_trans (hy1 z h2) (hz1 y h1)) (blt_irrefl _)
    subst e
    rw [asc_unique hy2 hz2 fun u => ?_]
    constructor
    · intro hu
      rcases List.mem_cons.1 ((h u).1 (by simp [hu])) with rfl | h1
      · exact absurd (hy1 _ hu) (blt_irrefl _)
      · exact h1
    · intro hu
      rcases List.mem_cons.1 ((h u).2 (by simp [hu])) with rfl | h1
      · exact absurd (hz1 _ hu) (blt_irrefl _)
      · exact h1
theorem IsMem.unique {l : List L3} {x : ByteArray} {ys zs : List ByteArray} (h : IsMem l x ys) (k : IsMem l x zs) : ys = zs :=
  asc_unique h.1 k.1 fun y => (h.2 y).trans (k.2 y).symm
theorem IsMem.head {l : List L3} {x r : ByteArray} {ys : List ByteArray} (h : IsMem l x ys) (hr : ys.head? = some r) : Least l x r := by
  cases ys with
  | nil => cases hr
  | cons y ys =>
    simp at hr; subst hr
    refine ⟨(h.2 y).1 (by simp), fun z hz hlt => ?_⟩
    rcases List.mem_cons.1 ((h.2 z).2 hz) with rfl | h1
    · exact blt_irrefl _ hlt
    · exact blt_irrefl _ (blt_trans hlt ((List.pairwise_cons.1 h.1).1 z h1))
theorem mem_step_in {l : List L3} {x e : ByteArray} {A l2 : List ByteArray} (h : ∀ y, y ∈ l2 ↔ y = x ∨ (y ∈ A ∧ Conn l x y)) (hc : Conn l x e) : ∀ y, y ∈ l2 ++ [e] ↔ y = x ∨ (y ∈ A ++ [e] ∧ Conn l x y) := by
  intro y
  simp only [List.mem_append, List.mem_singleton, h]
  constructor
  · rintro ((h1 | ⟨h1, h2⟩) | rfl)
    · exact .inl h1
    · exact .inr ⟨.inl h1, h2⟩
    · exact .inr ⟨.inr rfl, hc⟩
  · rintro (h1 | ⟨h1 | h1, h2⟩)
    · exact .inl (.inl h1)
    · exact .inl (.inr ⟨h1, h2⟩)
    · exact .inr h1
theorem mem_step_out {l : List L3} {x e : ByteArray} {A l2 : List ByteArray} (h : ∀ y, y ∈ l2 ↔ y = x ∨ (y ∈ A ∧ Conn l x y)) (hc : ¬ Conn l x e) : ∀ y, y ∈ l2 ↔ y = x ∨ (y ∈ A ++ [e] ∧ Conn l x y) := by
  intro y
  simp only [List.mem_append, List.mem_singleton, h]
  constructor
  · rintro (h1 | ⟨h1, h2⟩)
    · exact .inl h1
    · exact .inr ⟨.inl h1, h2⟩
  · rintro (h1 | ⟨h1 | h1, h2⟩)
    · exact .inl h1
    · exact .inr ⟨h1, h2⟩
    · subst h1; exact absurd h2 hc
theorem mem_done {l : List L3} {x : ByteArray} {l1 ys : List ByteArray} (h : ∀ y, y ∈ l1 ↔ y = x ∨ (y ∈ Lk.ids l ∧ Conn l x y)) (ha : Asc ys) (hy : ∀ y, y ∈ ys ↔ y ∈ l1) : IsMem l x ys := by
  refine ⟨ha, fun y => ?_⟩
  rw [hy, h]
  constructor
  · rintro (rfl | ⟨_, h2⟩)
    · exact Conn.refl l _
    · exact h2
  · intro hc
    rcases hc.ids with h1 | h1
    · exact .inl h1.symm
    · exact .inr ⟨h1, hc⟩

/-! ### Links up to a time; the forest -/
def upto (t : Int) (l : List L3) : List L3 := l.filter fun e => decide (e.2.2 ≤ t)
theorem upto_in {t : Int} {l : List L3} {e : L3} (h : e.2.2 ≤ t) : upto t (l ++ [e]) = upto t l ++ [e] := by simp [upto, h]
theorem upto_out {t : Int} {l : List L3} {e : L3} (h : ¬ e.2.2 ≤ t) : upto t (l ++ [e]) = upto t l := by simp [upto]; omega
theorem upto_len (t : Int) (l : List L3) : (upto t l).length ≤ l.length := List.length_filter_le _ _
open Classical in
noncomputable def fo (l : List L3) : Nat → List L3
  | 0 => []
  | n + 1 => match l[n]? with
    | some e => if Conn (l.take n) e.1 e.2.1 then fo l n else fo l n ++ [e]
    | none => fo l n
theorem fo_in {l : List L3} {n : Nat} {e : L3} (h : l[n]? = some e) (hc : ¬ Conn (l.take n) e.1 e.2.1) : fo l (n + 1) = fo l n ++ [e] := by rw [fo, h]; exact if_neg hc
theorem fo_out {l : List L3} {n : Nat} {e : L3} (h : l[n]? = some e) (hc : Conn (l.take n) e.1 e.2.1) : fo l (n + 1) = fo l n := by rw [fo, h]; exact if_pos hc
theorem fo_len (l : List L3) (n : Nat) : (fo l n).length ≤ n := by
  induction n with
  | zero => simp [fo]
  | succ n ih =>
    rw [fo]
    split
    · split
      · omega
      · simp; omega
    · omega
theorem take_one {l : List L3} {n : Nat} {e : L3} (h : l[n]? = some e) : l.take (n + 1) = l.take n ++ [e] := by
  rw [List.take_add_one, h]; rfl
theorem fo_conn (l : List L3) (n : Nat) (x y : ByteArray) : Conn (fo l n) x y ↔ Conn (l.take n) x y := by
  induction n generalizing x y with
  | zero => simp [fo]
  | succ n ih =>
    rcases h : l[n]? with _ | e
    · have e1 : fo l (n + 1) = fo l n := by rw [fo, h]
      have hn : l.length ≤ n := List.getElem?_eq_none_iff.1 h
      rw [e1, ih, List.take_of_length_le hn, List.take_of_length_le (show l.length ≤ n + 1 by omega)]
    · rw [take_one h]
      by_cases hc : Conn (l.take n) e.1 e.2.1
      · rw [fo_out h hc, ih, conn_snoc]
        constructor
        · exact .inl
        · rintro (h1 | ⟨h1, h2⟩ | ⟨h1, h2⟩)
          · exact h1
          · exact h1.trans (hc.trans h2)
          · exact h1.trans (hc.symm.trans h2)
      · rw [fo_in h hc, conn_snoc, conn_snoc]
        simp only [ih]

/-! ### Over a link -/
/-- The id to which a link leads from an id. -/
def oth (q : L3) (x : ByteArray) : Option ByteArray := if x = q.1 then some q.2.1 else if x = q.2.1 then some q.1 else none
theorem oth_joins {q : L3} {x y : ByteArray} (h : oth q x = some y) : joins q x y := by
  unfold oth at h
  split at h
  · cases h; subst_vars; exact .inl ⟨rfl, rfl⟩
  · split at h
    · cases h; subst_vars; exact .inr ⟨rfl, rfl⟩
    · cases h
theorem joins_oth {q : L3} {x y : ByteArray} (h : joins q x y) : ∃ z, oth q x = some z ∧ (z = y ∨ x = y) := by
  unfold oth
  rcases h with ⟨rfl, rfl⟩ | ⟨h1, h2⟩
  · exact ⟨_, if_pos rfl, .inl rfl⟩
  · by_cases hx : x = q.1
    · exact ⟨_, if_pos hx, .inr (by rw [hx, h1])⟩
    · exact ⟨q.1, by rw [if_neg hx, if_pos h2.symm], .inl h1⟩

theorem insert_ok {l : List ByteArray} {s : ByteArray} {k : Nat} (ha : Asc l) (hs : s ∉ l) (hb : ∀ y ∈ l.take k, blt y s) (hn : ∀ x, l[k]? = some x → ¬ blt x s) :
    Asc ((l.take k ++ [s]) ++ l.drop k) ∧ ∀ y, y ∈ (l.take k ++ [s]) ++ l.drop k ↔ y = s ∨ y ∈ l := by
  have hsplit : l = l.take k ++ l.drop k := (List.take_append_drop k l).symm
  have hpw : (l.take k ++ l.drop k).Pairwise blt := by rw [← hsplit]; exact ha
  obtain ⟨p1, p2, p3⟩ := List.pairwise_append.1 hpw
  have hafter : ∀ y ∈ l.drop k, blt s y := by
    intro y hy
    cases hd : l.drop k with
    | nil => rw [hd] at hy; cases hy
    | cons x r =>
      have hx : l[k]? = some x := by
        have : (l.drop k)[0]? = some x := by rw [hd]; rfl
        rwa [List.getElem?_drop, Nat.add_zero] at this
      have hsx : blt s x := Classical.byContradiction fun hc => hs (by
        have : x = s := blt_tri (hn x hx) hc
        rw [← this]; exact List.mem_of_getElem? hx)
      rw [hd] at hy p2
      rcases List.mem_cons.1 hy with rfl | hy
      · exact hsx
      · exact blt_trans hsx ((List.pairwise_cons.1 p2).1 y hy)
  refine ⟨?_, fun y => ?_⟩
  · show ((l.take k ++ [s]) ++ l.drop k).Pairwise blt
    rw [List.append_assoc]
    refine List.pairwise_append.2 ⟨p1, ?_, ?_⟩
    · rw [List.singleton_append]
      exact List.pairwise_cons.2 ⟨hafter, p2⟩
    · intro a h1 b h2
      rw [List.singleton_append] at h2
      rcases List.mem_cons.1 h2 with rfl | h2
      · exact hb a h1
      · exact p3 a h1 b h2
  · conv => rhs; rw [hsplit]
    simp only [List.mem_append, List.mem_singleton]
    constructor
    · rintro ((h1 | h1) | h1)
      · exact .inr (.inl h1)
      · exact .inl h1
      · exact .inr (.inr h1)
    · rintro (h1 | h1 | h1)
      · exact .inl (.inr h1)
      · exact .inl (.inl h1)
      · exact .inr h1

/-! ### The members by growing a list -/
def Closed (l : List L3) (ys : List ByteArray) (n : Nat) : Prop := ∀ (j : Nat) e, j < n → l[j]? = some e → (e.1 ∈ ys ↔ e.2.1 ∈ ys)
theorem closed_mem {l : List L3} {x : ByteArray} {ys : List ByteArray} (ha : Asc ys) (hx : x ∈ ys) (hc : ∀ y ∈ ys, Conn l x y) (hcl : Closed l ys l.length) : IsMem l x ys := by
  refine ⟨ha, fun y => ⟨hc y, fun h => ?_⟩⟩
  refine h (fun y => y ∈ ys) hx fun e he a b hj ha => ?_
  obtain ⟨j, hj'⟩ := List.mem_iff_getElem?.1 he
  have := hcl j e (List.getElem?_eq_some_iff.1 hj').1 hj'
  rcases hj with ⟨rfl, rfl⟩ | ⟨rfl, rfl⟩
  · exact this.1 ha
  · exact this.2 ha
theorem asc_nodup {ys : List ByteArray} (h : Asc ys) : ys.Nodup := h.imp fun hlt => blt_ne hlt
theorem nodup_len : ∀ {ys zs : List ByteArray}, ys.Nodup → (∀ y ∈ ys, y ∈ zs) → ys.length ≤ zs.length
  | [], _, _, _ => Nat.zero_le _
  | y :: ys, zs, hn, hs => by
    obtain ⟨h1, h2⟩ := List.nodup_cons.1 hn
    have hy : y ∈ zs := hs y (by simp)
    have h3 := nodup_len (zs := zs.filter fun u => decide (u ≠ y)) h2 fun u hu => List.mem_filter.2 ⟨hs u (by simp [hu]), by
      simp only [ne_eq, decide_not, Bool.not_eq_eq_eq_not, Bool.not_true, decide_eq_false_iff_not]
      intro e; subst e; exact h1 hu⟩
    have h4 := filter_lt zs (fun u => decide (u ≠ y)) (fun _ => true) (fun _ _ => rfl) hy rfl (by simp)
    have h5 : (zs.filter fun _ => true) = zs := List.filter_eq_self.2 fun _ _ => rfl
    rw [h5] at h4
    rw [List.length_cons]
    omega
/-- A list of members is no longer than the ids. -/
theorem mem_len {l : List L3} {x : ByteArray} {ys : List ByteArray} (ha : Asc ys) (hc : ∀ y ∈ ys, Conn l x y) : ys.length ≤ 1 + 2 * l.length := by
  have hsub : ∀ y ∈ ys, y ∈ x :: Lk.ids l := fun y hy => by
    rcases (hc y hy).ids with h | h
    · simp [h]
    · simp [h]
  have hlen : (x :: Lk.ids l).length = 1 + 2 * l.length := by
    clear hsub hc
    induction l with
    | nil => rfl
    | cons e l ih => simp only [Lk.ids, List.flatMap_cons, List.length_cons, List.length_append] at *; simp at *; omega
  rw [← hlen]
  exact nodup_len (asc_nodup ha) hsub
#print axioms Good.join
end Go.Fl.Lk
end
/- Plain meanings of code, as what must hold for an end: tests, joins, calls, loops. Conditions: none; no program is in sight. -/
section
namespace Go.Fl
/-- A test: what must hold on either way. -/
def Cnd (c A B : Prop) : Prop := (c → A) ∧ (¬ c → B)
theorem Cnd.yes {c A B : Prop} (h : c) (a : A) : Cnd c A B := ⟨fun _ => a, fun n => absurd h n⟩
theorem Cnd.no {c A B : Prop} (h : ¬ c) (b : B) : Cnd c A B := ⟨fun y => absurd y h, fun _ => b⟩
/-- A number that is no greater than a machine's. -/
def InI (x : Int) : Prop := -9223372036854775808 ≤ x ∧ x ≤ 9223372036854775807
theorem InI.mk {x : Int} (h : -9223372036854775808 ≤ x) (k : x ≤ 9223372036854775807) : InI x := ⟨h, k⟩
/-- A length that may grow. -/
def Sml (n : Nat) : Prop := n ≤ 4294967296
/-- A map with one entry more. -/
def put {κ α : Type} [DecidableEq κ] (F : κ → Option α) (k : κ) (y : α) : κ → Option α := fun q => if q = k then some y else F q
def Jn0 (k : Prop) (A : Prop → Prop) : Prop := ∃ Y : Prop, (Y → k) ∧ A Y
def Jn1 {T0 : Type} (kk : T0 → Prop) (AA : (T0 → Prop) → Prop) : Prop := ∃ Y : T0 → Prop, (∀ s0_, Y s0_ → kk s0_) ∧ AA Y
theorem Jn1.mk {T0 : Type} {kk : T0 → Prop} {AA : (T0 → Prop) → Prop} (Y : T0 → Prop) (h : AA Y) (hk : ∀ s0_, Y s0_ → kk s0_) : Jn1 kk AA := ⟨Y, hk, h⟩
def Jn2 {T0 T1 : Type} (kk : T0 → T1 → Prop) (AA : (T0 → T1 → Prop) → Prop) : Prop := ∃ Y : T0 → T1 → Prop, (∀ s0_ s1_, Y s0_ s1_ → kk s0_ s1_) ∧ AA Y
theorem Jn2.mk {T0 T1 : Type} {kk : T0 → T1 → Prop} {AA : (T0 → T1 → Prop) → Prop} (Y : T0 → T1 → Prop) (h : AA Y) (hk : ∀ s0_ s1_, Y s0_ s1_ → kk s0_ s1_) : Jn2 kk AA := ⟨Y, hk, h⟩
def Jn3 {T0 T1 T2 : Type} (kk : T0 → T1 → T2 → Prop) (AA : (T0 → T1 → T2 → Prop) → Prop) : Prop := ∃ Y : T0 → T1 → T2 → Prop, (∀ s0_ s1_ s2_, Y s0_ s1_ s2_ → kk s0_ s1_ s2_) ∧ AA Y
theorem Jn3.mk {T0 T1 T2 : Type} {kk : T0 → T1 → T2 → Prop} {AA : (T0 → T1 → T2 → Prop) → Prop} (Y : T0 → T1 → T2 → Prop) (h : AA Y) (hk : ∀ s0_ s1_ s2_, Y s0_ s1_ s2_ → kk s0_ s1_ s2_) : Jn3 kk AA := ⟨Y, hk, h⟩
def Jn4 {T0 T1 T2 T3 : Type} (kk : T0 → T1 → T2 → T3 → Prop) (AA : (T0 → T1 → T2 → T3 → Prop) → Prop) : Prop := ∃ Y : T0 → T1 → T2 → T3 → Prop, (∀ s0_ s1_ s2_ s3_, Y s0_ s1_ s2_ s3_ → kk s0_ s1_ s2_ s3_) ∧ AA Y
theorem Jn4.mk {T0 T1 T2 T3 : Type} {kk : T0 → T1 → T2 → T3 → Prop} {AA : (T0 → T1 → T2 → T3 → Prop) → Prop} (Y : T0 → T1 → T2 → T3 → Prop) (h : AA Y) (hk : ∀ s0_ s1_ s2_ s3_, Y s0_ s1_ s2_ s3_ → kk s0_ s1_ s2_ s3_) : Jn4 kk AA := ⟨Y, hk, h⟩
def Jn5 {T0 T1 T2 T3 T4 : Type} (kk : T0 → T1 → T2 → T3 → T4 → Prop) (AA : (T0 → T1 → T2 → T3 → T4 → Prop) → Prop) : Prop := ∃ Y : T0 → T1 → T2 → T3 → T4 → Prop, (∀ s0_ s1_ s2_ s3_ s4_, Y s0_ s1_ s2_ s3_ s4_ → kk s0_ s1_ s2_ s3_ s4_) ∧ AA Y
theorem Jn5.mk {T0 T1 T2 T3 T4 : Type} {kk : T0 → T1 → T2 → T3 → T4 → Prop} {AA : (T0 → T1 → T2 → T3 → T4 → Prop) → Prop} (Y : T0 → T1 → T2 → T3 → T4 → Prop) (h : AA Y) (hk : ∀ s0_ s1_ s2_ s3_ s4_, Y s0_ s1_ s2_ s3_ s4_ → kk s0_ s1_ s2_ s3_ s4_) : Jn5 kk AA := ⟨Y, hk, h⟩
def Jn6 {T0 T1 T2 T3 T4 T5 : Type} (kk : T0 → T1 → T2 → T3 → T4 → T5 → Prop) (AA : (T0 → T1 → T2 → T3 → T4 → T5 → Prop) → Prop) : Prop := ∃ Y : T0 → T1 → T2 → T3 → T4 → T5 → Prop, (∀ s0_ s1_ s2_ s3_ s4_ s5_, Y s0_ s1_ s2_ s3_ s4_ s5_ → kk s0_ s1_ s2_ s3_ s4_ s5_) ∧ AA Y
theorem Jn6.mk {T0 T1 T2 T3 T4 T5 : Type} {kk : T0 → T1 → T2 → T3 → T4 → T5 → Prop} {AA : (T0 → T1 → T2 → T3 → T4 → T5 → Prop) → Prop} (Y : T0 → T1 → T2 → T3 → T4 → T5 → Prop) (h : AA Y) (hk : ∀ s0_ s1_ s2_ s3_ s4_ s5_, Y s0_ s1_ s2_ s3_ s4_ s5_ → kk s0_ s1_ s2_ s3_ s4_ s5_) : Jn6 kk AA := ⟨Y, hk, h⟩
def Jn7 {T0 T1 T2 T3 T4 T5 T6 : Type} (kk : T0 → T1 → T2 → T3 → T4 → T5 → T6 → Prop) (AA : (T0 → T1 → T2 → T3 → T4 → T5 → T6 → Prop) → Prop) : Prop := ∃ Y : T0 → T1 → T2 → T3 → T4 → T5 → T6 → Prop, (∀ s0_ s1_ s2_ s3_ s4_ s5_ s6_, Y s0_ s1_ s2_ s3_ s4_ s5_ s6_ → kk s0_ s1_ s2_ s3_ s4_ s5_ s6_) ∧ AA Y
theorem Jn7.mk {T0 T1 T2 T3 T4 T5 T6 : Type} {kk : T0 → T1 → T2 → T3 → T4 → T5 → T6 → Prop} {AA : (T0 → T1 → T2 → T3 → T4 → T5 → T6 → Prop) → Prop} (Y : T0 → T1 → T2 → T3 → T4 → T5 → T6 → Prop) (h : AA Y) (hk : ∀ s0_ s1_ s2_ s3_ s4_ s5_ s6_, Y s0_ s1_ s2_ s3_ s4_ s5_ s6_ → kk s0_ s1_ s2_ s3_ s4_ s5_ s6_) : Jn7 kk AA := ⟨Y, hk, h⟩
def Jn8 {T0 T1 T2 T3 T4 T5 T6 T7 : Type} (kk : T0 → T1 → T2 → T3 → T4 → T5 → T6 → T7 → Prop) (AA : (T0 → T1 → T2 → T3 → T4 → T5 → T6 → T7 → Prop) → Prop) : Prop := ∃ Y : T0 → T1 → T2 → T3 → T4 → T5 → T6 → T7 → Prop, (∀ s0_ s1_ s2_ s3_ s4_ s5_ s6_ s7_, Y s0_ s1_ s2_ s3_ s4_ s5_ s6_ s7_ → kk s0_ s1_ s2_ s3_ s4_ s5_ s6_ s7_) ∧ AA Y
theorem Jn8.mk {T0 T1 T2 T3 T4 T5 T6 T7 : Type} {kk : T0 → T1 → T2 → T3 → T4 → T5 → T6 → T7 → Prop} {AA : (T0 → T1 → T2 → T3 → T4 → T5 → T6 → T7 → Prop) → Prop} (Y : T0 → T1 → T2 → T3 → T4 → T5 → T6 → T7 → Prop) (h : AA Y) (hk : ∀ s0_ s1_ s2_ s3_ s4_ s5_ s6_ s7_, Y s0_ s1_ s2_ s3_ s4_ s5_ s6_ s7_ → kk s0_ s1_ s2_ s3_ s4_ s5_ s6_ s7_) : Jn8 kk AA := ⟨Y, hk, h⟩
def Jn9 {T0 T1 T2 T3 T4 T5 T6 T7 T8 : Type} (kk : T0 → T1 → T2 → T3 → T4 → T5 → T6 → T7 → T8 → Prop) (AA : (T0 → T1 → T2 → T3 → T4 → T5 → T6 → T7 → T8 → Prop) → Prop) : Prop := ∃ Y : T0 → T1 → T2 → T3 → T4 → T5 → T6 → T7 → T8 → Prop, (∀ s0_ s1_ s2_ s3_ s4_ s5_ s6_ s7_ s8_, Y s0_ s1_ s2_ s3_ s4_ s5_ s6_ s7_ s8_ → kk s0_ s1_ s2_ s3_ s4_ s5_ s6_ s7_ s8_) ∧ AA Y
theorem Jn9.mk {T0 T1 T2 T3 T4 T5 T6 T7 T8 : Type} {kk : T0 → T1 → T2 → T3 → T4 → T5 → T6 → T7 → T8 → Prop} {AA : (T0 → T1 → T2 → T3 → T4 → T5 → T6 → T7 → T8 → Prop) → Prop} (Y : T0 → T1 → T2 → T3 → T4 → T5 → T6 → T7 → T8 → Prop) (h : AA Y) (hk : ∀ s0_ s1_ s2_ s3_ s4_ s5_ s6_ s7_ s8_, Y s0_ s1_ s2_ s3_ s4_ s5_ s6_ s7_ s8_ → kk s0_ s1_ s2_ s3_ s4_ s5_ s6_ s7_ s8_) : Jn9 kk AA := ⟨Y, hk, h⟩
def Jn10 {T0 T1 T2 T3 T4 T5 T6 T7 T8 T9 : Type} (kk : T0 → T1 → T2 → T3 → T4 → T5 → T6 → T7 → T8 → T9 → Prop) (AA : (T0 → T1 → T2 → T3 → T4 → T5 → T6 → T7 → T8 → T9 → Prop) → Prop) : Prop := ∃ Y : T0 → T1 → T2 → T3 → T4 → T5 → T6 → T7 → T8 → T9 → Prop, (∀ s0_ s1_ s2_ s3_ s4_ s5_ s6_ s7_ s8_ s9_, Y s0_ s1_ s2_ s3_ s4_ s5_ s6_ s7_ s8_ s9_ → kk s0_ s1_ s2_ s3_ s4_ s5_ s6_ s7_ s8_ s9_) ∧ AA Y
theorem Jn10.mk {T0 T1 T2 T3 T4 T5 T6 T7 T8 T9 : Type} {kk : T0 → T1 → T2 → T3 → T4 → T5 → T6 → T7 → T8 → T9 → Prop} {AA : (T0 → T1 → T2 → T3 → T4 → T5 → T6 → T7 → T8 → T9 → Prop) → Prop} (Y : T0 → T1 → T2 → T3 → T4 → T5 → T6 → T7 → T8 → T9 → Prop) (h : AA Y) (hk : ∀ s0_ s1_ s2_ s3_ s4_ s5_ s6_ s7_ s8_ s9_, Y s0_ s1_ s2_ s3_ s4_ s5_ s6_ s7_ s8_ s9_ → kk s0_ s1_ s2_ s3_ s4_ s5_ s6_ s7_ s8_ s9_) : Jn10 kk AA := ⟨Y, hk, h⟩
def Jn11 {T0 T1 T2 T3 T4 T5 T6 T7 T8 T9 T10 : Type} (kk : T0 → T1 → T2 → T3 → T4 → T5 → T6 → T7 → T8 → T9 → T10 → Prop) (AA : (T0 → T1 → T2 → T3 → T4 → T5 → T6 → T7 → T8 → T9 → T10 → Prop) → Prop) : Prop := ∃ Y : T0 → T1 → T2 → T3 → T4 → T5 → T6 → T7 → T8 → T9 → T10 → Prop, (∀ s0_ s1_ s2_ s3_ s4_ s5_ s6_ s7_ s8_ s9_ s10_, Y s0_ s1_ s2_ s3_ s4_ s5_ s6_ s7_ s8_ s9_ s10_ → kk s0_ s1_ s2_ s3_ s4_ s5_ s6_ s7_ s8_ s9_ s10_) ∧ AA Y
theorem Jn11.mk {T0 T1 T2 T3 T4 T5 T6 T7 T8 T9 T10 : Type} {kk : T0 → T1 → T2 → T3 → T4 → T5 → T6 → T7 → T8 → T9 → T10 → Prop} {AA : (T0 → T1 → T2 → T3 → T4 → T5 → T6 → T7 → T8 → T9 → T10 → Prop) → Prop} (Y : T0 → T1 → T2 → T3 → T4 → T5 → T6 → T7 → T8 → T9 → T10 → Prop) (h : AA Y) (hk : ∀ s0_ s1_ s2_ s3_ s4_ s5_ s6_ s7_ s8_ s9_ s10_, Y s0_ s1_ s2_ s3_ s4_ s5_ s6_ s7_ s8_ s9_ s10_ → kk s0_ s1_ s2_ s3_ s4_ s5_ s6_ s7_ s8_ s9_ s10_) : Jn11 kk AA := ⟨Y, hk, h⟩
def Jn12 {T0 T1 T2 T3 T4 T5 T6 T7 T8 T9 T10 T11 : Type} (kk : T0 → T1 → T2 → T3 → T4 → T5 → T6 → T7 → T8 → T9 → T10 → T11 → Prop) (AA : (T0 → T1 → T2 → T3 → T4 → T5 → T6 → T7 → T8 → T9 → T10 → T11 → Prop) → Prop) : Prop := ∃ Y : T0 → T1 → T2 → T3 → T4 → T5 → T6 → T7 → T8 → T9 → T10 → T11 → Prop, (∀ s0_ s1_ s2_ s3_ s4_ s5_ s6_ s7_ s8_ s9_ s10_ s11_, Y s0_ s1_ s2_ s3_ s4_ s5_ s6_ s7_ s8_ s9_ s10_ s11_ → kk s0_ s1_ s2_ s3_ s4_ s5_ s6_ s7_ s8_ s9_ s10_ s11_) ∧ AA Y
theorem Jn12.mk {T0 T1 T2 T3 T4 T5 T6 T7 T8 T9 T10 T11 : Type} {kk : T0 → T1 → T2 → T3 → T4 → T5 → T6 → T7 → T8 → T9 → T10 → T11 → Prop} {AA : (T0 → T1 → T2 → T3 → T4 → T5 → T6 → T7 → T8 → T9 → T10 → T11 → Prop) → Prop} (Y : T0 → T1 → T2 → T3 → T4 → T5 → T6 → T7 → T8 → T9 → T10 → T11 → Prop) (h : AA Y) (hk : ∀ s0_ s1_ s2_ s3_ s4_ s5_ s6_ s7_ s8_ s9_ s10_ s11_, Y s0_ s1_ s2_ s3_ s4_ s5_ s6_ s7_ s8_ s9_ s10_ s11_ → kk s0_ s1_ s2_ s3_ s4_ s5_ s6_ s7_ s8_ s9_ s10_ s11_) : Jn12 kk AA := ⟨Y, hk, h⟩
def Lp1 {T0 : Type} (body : T0 → (T0 → Prop) → Prop) (s0_ : T0) : Prop := ∀ X : T0 → Prop, (∀ s0_' Y, (∀ s0_, Y s0_ → X s0_) → body s0_' Y → X s0_') → X s0_
theorem Lp1.ind {T0 : Type} {body : T0 → (T0 → Prop) → Prop} (I : T0 → Prop) (m : T0 → Nat) (h : ∀ s0_, I s0_ → body s0_ (fun s0_' => I s0_' ∧ m s0_' < m s0_)) {s0_ : T0} (h0 : I s0_) : Lp1 body s0_ := by
  intro X hX
  have key : ∀ (k : Nat) (s0_ : T0), m s0_ ≤ k → I s0_ → X s0_ := by
    intro k
    induction k with
    | zero => exact fun s0_ _ hi => hX s0_ _ (fun s0_' h => absurd h.2 (by omega)) (h s0_ hi)
    | succ k ih => exact fun s0_ hk hi => hX s0_ _ (fun s0_' h => ih s0_' (by omega) h.1) (h s0_ hi)
  exact key _ s0_ (Nat.le_refl _) h0
def Lp2 {T0 T1 : Type} (body : T0 → T1 → (T0 → T1 → Prop) → Prop) (s0_ : T0) (s1_ : T1) : Prop := ∀ X : T0 → T1 → Prop, (∀ s0_' s1_' Y, (∀ s0_ s1_, Y s0_ s1_ → X s0_ s1_) → body s0_' s1_' Y → X s0_' s1_') → X s0_ s1_
theorem Lp2.ind {T0 T1 : Type} {body : T0 → T1 → (T0 → T1 → Prop) → Prop} (I : T0 → T1 → Prop) (m : T0 → T1 → Nat) (h : ∀ s0_ s1_, I s0_ s1_ → body s0_ s1_ (fun s0_' s1_' => I s0_' s1_' ∧ m s0_' s1_' < m s0_ s1_)) {s0_ : T0} {s1_ : T1} (h0 : I s0_ s1_) : Lp2 body s0_ s1_ := by
  intro X hX
  have key : ∀ (k : Nat) (s0_ : T0) (s1_ : T1), m s0_ s1_ ≤ k → I s0_ s1_ → X s0_ s1_ := by
    intro k
    induction k with
    | zero => exact fun s0_ s1_ _ hi => hX s0_ s1_ _ (fun s0_' s1_' h => absurd h.2 (by omega)) (h s0_ s1_ hi)
    | succ k ih => exact fun s0_ s1_ hk hi => hX s0_ s1_ _ (fun s0_' s1_' h => ih s0_' s1_' (by omega) h.1) (h s0_ s1_ hi)
  exact key _ s0_ s1_ (Nat.le_refl _) h0
def Lp3 {T0 T1 T2 : Type} (body : T0 → T1 → T2 → (T0 → T1 → T2 → Prop) → Prop) (s0_ : T0) (s1_ : T1) (s2_ : T2) : Prop := ∀ X : T0 → T1 → T2 → Prop, (∀ s0_' s1_' s2_' Y, (∀ s0_ s1_ s2_, Y s0_ s1_ s2_ → X s0_ s1_ s2_) → body s0_' s1_' s2_' Y → X s0_' s1_' s2_') → X s0_ s1_ s2_
theorem Lp3.ind {T0 T1 T2 : Type} {body : T0 → T1 → T2 → (T0 → T1 → T2 → Prop) → Prop} (I : T0 → T1 → T2 → Prop) (m : T0 → T1 → T2 → Nat) (h : ∀ s0_ s1_ s2_, I s0_ s1_ s2_ → body s0_ s1_ s2_ (fun s0_' s1_' s2_' => I s0_' s1_' s2_' ∧ m s0_' s1_' s2_' < m s0_ s1_ s2_)) {s0_ : T0} {s1_ : T1} {s2_ : T2} (h0 : I s0_ s1_ s2_) : Lp3 body s0_ s1_ s2_ := by
  intro X hX
  have key : ∀ (k : Nat) (s0_ : T0) (s1_ : T1) (s2_ : T2), m s0_ s1_ s2_ ≤ k → I s0_ s1_ s2_ → X s0_ s1_ s2_ := by
    intro k
    induction k with
    | zero => exact fun s0_ s1_ s2_ _ hi => hX s0_ s1_ s2_ _ (fun s0_' s1_' s2_' h => absurd h.2 (by omega)) (h s0_ s1_ s2_ hi)
    | succ k ih => exact fun s0_ s1_ s2_ hk hi => hX s0_ s1_ s2_ _ (fun s0_' s1_' s2_' h => ih s0_' s1_' s2_' (by omega) h.1) (h s0_ s1_ s2_ hi)
  exact key _ s0_ s1_ s2_ (Nat.le_refl _) h0
def Lp4 {T0 T1 T2 T3 : Type} (body : T0 → T1 → T2 → T3 → (T0 → T1 → T2 → T3 → Prop) → Prop) (s0_ : T0) (s1_ : T1) (s2_ : T2) (s3_ : T3) : Prop := ∀ X : T0 → T1 → T2 → T3 → Prop, (∀ s0_' s1_' s2_' s3_' Y, (∀ s0_ s1_ s2_ s3_, Y s0_ s1_ s2_ s3_ → X s0_ s1_ s2_ s3_) → body s0_' s1_' s2_' s3_' Y → X s0_' s1_' s2_' s3_') → X s0_ s1_ s2_ s3_
theorem Lp4.ind {T0 T1 T2 T3 : Type} {body : T0 → T1 → T2 → T3 → (T0 → T1 → T2 → T3 → Prop) → Prop} (I : T0 → T1 → T2 → T3 → Prop) (m : T0 → T1 → T2 → T3 → Nat) (h : ∀ s0_ s1_ s2_ s3_, I s0_ s1_ s2_ s3_ → body s0_ s1_ s2_ s3_ (fun s0_' s1_' s2_' s3_' => I s0_' s1_' s2_' s3_' ∧ m s0_' s1_' s2_' s3_' < m s0_ s1_ s2_ s3_)) {s0_ : T0} {s1_ : T1} {s2_ : T2} {s3_ : T3} (h0 : I s0_ s1_ s2_ s3_) : Lp4 body s0_ s1_ s2_ s3_ := by
  intro X hX
  have key : ∀ (k : Nat) (s0_ : T0) (s1_ : T1) (s2_ : T2) (s3_ : T3), m s0_ s1_ s2_ s3_ ≤ k → I s0_ s1_ s2_ s3_ → X s0_ s1_ s2_ s3_ := by
    intro k
    induction k with
    | zero => exact fun s0_ s1_ s2_ s3_ _ hi => hX s0_ s1_ s2_ s3_ _ (fun s0_' s1_' s2_' s3_' h => absurd h.2 (by omega)) (h s0_ s1_ s2_ s3_ hi)
    | succ k ih => exact fun s0_ s1_ s2_ s3_ hk hi => hX s0_ s1_ s2_ s3_ _ (fun s0_' s1_' s2_' s3_' h => ih s0_' s1_' s2_' s3_' (by omega) h.1) (h s0_ s1_ s2_ s3_ hi)
  exact key _ s0_ s1_ s2_ s3_ (Nat.le_refl _) h0
def Lp5 {T0 T1 T2 T3 T4 : Type} (body : T0 → T1 → T2 → T3 → T4 → (T0 → T1 → T2 → T3 → T4 → Prop) → Prop) (s0_ : T0) (s1_ : T1) (s2_ : T2) (s3_ : T3) (s4_ : T4) : Prop := ∀ X : T0 → T1 → T2 → T3 → T4 → Prop, (∀ s0_' s1_' s2_' s3_' s4_' Y, (∀ s0_ s1_ s2_ s3_ s4_, Y s0_ s1_ s2_ s3_ s4_ → X s0_ s1_ s2_ s3_ s4_) → body s0_' s1_' s2_' s3_' s4_' Y → X s0_' s1_' s2_' s3_' s4_') → X s0_ s1_ s2_ s3_ s4_
theorem Lp5.ind {T0 T1 T2 T3 T4 : Type} {body : T0 → T1 → T2 → T3 → T4 → (T0 → T1 → T2 → T3 → T4 → Prop) → Prop} (I : T0 → T1 → T2 → T3 → T4 → Prop) (m : T0 → T1 → T2 → T3 → T4 → Nat) (h : ∀ s0_ s1_ s2_ s3_ s4_, I s0_ s1_ s2_ s3_ s4_ → body s0_ s1_ s2_ s3_ s4_ (fun s0_' s1_' s2_' s3_' s4_' => I s0_' s1_' s2_' s3_' s4_' ∧ m s0_' s1_' s2_' s3_' s4_' < m s0_ s1_ s2_ s3_ s4_)) {s0_ : T0} {s1_ : T1} {s2_ : T2} {s3_ : T3} {s4_ : T4} (h0 : I s0_ s1_ s2_ s3_ s4_) : Lp5 body s0_ s1_ s2_ s3_ s4_ := by
  intro X hX
  have key : ∀ (k : Nat) (s0_ : T0) (s1_ : T1) (s2_ : T2) (s3_ : T3) (s4_ : T4), m s0_ s1_ s2_ s3_ s4_ ≤ k → I s0_ s1_ s2_ s3_ s4_ → X s0_ s1_ s2_ s3_ s4_ := by
    intro k
    induction k with
    | zero => exact fun s0_ s1_ s2_ s3_ s4_ _ hi => hX s0_ s1_ s2_ s3_ s4_ _ (fun s0_' s1_' s2_' s3_' s4_' h => absurd h.2 (by omega)) (h s0_ s1_ s2_ s3_ s4_ hi)
    | succ k ih => exact fun s0_ s1_ s2_ s3_ s4_ hk hi => hX s0_ s1_ s2_ s3_ s4_ _ (fun s0_' s1_' s2_' s3_' s4_' h => ih s0_' s1_' s2_' s3_' s4_' (by omega) h.1) (h s0_ s1_ s2_ s3_ s4_ hi)
  exact key _ s0_ s1_ s2_ s3_ s4_ (Nat.le_refl _) h0
def Lp6 {T0 T1 T2 T3 T4 T5 : Type} (body : T0 → T1 → T2 → T3 → T4 → T5 → (T0 → T1 → T2 → T3 → T4 → T5 → Prop) → Prop) (s0_ : T0) (s1_ : T1) (s2_ : T2) (s3_ : T3) (s4_ : T4) (s5_ : T5) : Prop := ∀ X : T0 → T1 → T2 → T3 → T4 → T5 → Prop, (∀ s0_' s1_' s2_' s3_' s4_' s5_' Y, (∀ s0_ s1_ s2_ s3_ s4_ s5_, Y s0_ s1_ s2_ s3_ s4_ s5_ → X s0_ s1_ s2_ s3_ s4_ s5_) → body s0_' s1_' s2_' s3_' s4_' s5_' Y → X s0_' s1_' s2_' s3_' s4_' s5_') → X s0_ s1_ s2_ s3_ s4_ s5_
theorem Lp6.ind {T0 T1 T2 T3 T4 T5 : Type} {body : T0 → T1 → T2 → T3 → T4 → T5 → (T0 → T1 → T2 → T3 → T4 → T5 → Prop) → Prop} (I : T0 → T1 → T2 → T3 → T4 → T5 → Prop) (m : T0 → T1 → T2 → T3 → T4 → T5 → Nat) (h : ∀ s0_ s1_ s2_ s3_ s4_ s5_, I s0_ s1_ s2_ s3_ s4_ s5_ → body s0_ s1_ s2_ s3_ s4_ s5_ (fun s0_' s1_' s2_' s3_' s4_' s5_' => I s0_' s1_' s2_' s3_' s4_' s5_' ∧ m s0_' s1_' s2_' s3_' s4_' s5_' < m s0_ s1_ s2_ s3_ s4_ s5_)) {s0_ : T0} {s1_ : T1} {s2_ : T2} {s3_ : T3} {s4_ : T4} {s5_ : T5} (h0 : I s0_ s1_ s2_ s3_ s4_ s5_) : Lp6 body s0_ s1_ s2_ s3_ s4_ s5_ := by
  intro X hX
  have key : ∀ (k : Nat) (s0_ : T0) (s1_ : T1) (s2_ : T2) (s3_ : T3) (s4_ : T4) (s5_ : T5), m s0_ s1_ s2_ s3_ s4_ s5_ ≤ k → I s0_ s1_ s2_ s3_ s4_ s5_ → X s0_ s1_ s2_ s3_ s4_ s5_ := by
    intro k
    induction k with
    | zero => exact fun s0_ s1_ s2_ s3_ s4_ s5_ _ hi => hX s0_ s1_ s2_ s3_ s4_ s5_ _ (fun s0_' s1_' s2_' s3_' s4_' s5_' h => absurd h.2 (by omega)) (h s0_ s1_ s2_ s3_ s4_ s5_ hi)
    | succ k ih => exact fun s0_ s1_ s2_ s3_ s4_ s5_ hk hi => hX s0_ s1_ s2_ s3_ s4_ s5_ _ (fun s0_' s1_' s2_' s3_' s4_' s5_' h => ih s0_' s1_' s2_' s3_' s4_' s5_' (by omega) h.1) (h s0_ s1_ s2_ s3_ s4_ s5_ hi)
  exact key _ s0_ s1_ s2_ s3_ s4_ s5_ (Nat.le_refl _) h0
def Lp7 {T0 T1 T2 T3 T4 T5 T6 : Type} (body : T0 → T1 → T2 → T3 → T4 → T5 → T6 → (T0 → T1 → T2 → T3 → T4 → T5 → T6 → Prop) → Prop) (s0_ : T0) (s1_ : T1) (s2_ : T2) (s3_ : T3) (s4_ : T4) (s5_ : T5) (s6_ : T6) : Prop := ∀ X : T0 → T1 → T2 → T3 → T4 → T5 → T6 → Prop, (∀ s0_' s1_' s2_' s3_' s4_' s5_' s6_' Y, (∀ s0_ s1_ s2_ s3_ s4_ s5_ s6_, Y s0_ s1_ s2_ s3_ s4_ s5_ s6_ → X s0_ s1_ s2_ s3_ s4_ s5_ s6_) → body s0_' s1_' s2_' s3_' s4_' s5_' s6_' Y → X s0_' s1_' s2_' s3_' s4_' s5_' s6_') → X s0_ s1_ s2_ s3_ s4_ s5_ s6_
theorem Lp7.ind {T0 T1 T2 T3 T4 T5 T6 : Type} {body : T0 → T1 → T2 → T3 → T4 → T5 → T6 → (T0 → T1 → T2 → T3 → T4 → T5 → T6 → Prop) → Prop} (I : T0 → T1 → T2 → T3 → T4 → T5 → T6 → Prop) (m : T0 → T1 → T2 → T3 → T4 → T5 → T6 → Nat) (h : ∀ s0_ s1_ s2_ s3_ s4_ s5_ s6_, I s0_ s1_ s2_ s3_ s4_ s5_ s6_ → body s0_ s1_ s2_ s3_ s4_ s5_ s6_ (fun s0_' s1_' s2_' s3_' s4_' s5_' s6_' => I s0_' s1_' s2_' s3_' s4_' s5_' s6_' ∧ m s0_' s1_' s2_' s3_' s4_' s5_' s6_' < m s0_ s1_ s2_ s3_ s4_ s5_ s6_)) {s0_ : T0} {s1_ : T1} {s2_ : T2} {s3_ : T3} {s4_ : T4} {s5_ : T5} {s6_ : T6} (h0 : I s0_ s1_ s2_ s3_ s4_ s5_ s6_) : Lp7 body s0_ s1_ s2_ s3_ s4_ s5_ s6_ := by
  intro X hX
  have key : ∀ (k : Nat) (s0_ : T0) (s1_ : T1) (s2_ : T2) (s3_ : T3) (s4_ : T4) (s5_ : T5) (s6_ : T6), m s0_ s1_ s2_ s3_ s4_ s5_ s6_ ≤ k → I s0_ s1_ s2_ s3_ s4_ s5_ s6_ → X s0_ s1_ s2_ s3_ s4_ s5_ s6_ := by
    intro k
    induction k with
    | zero => exact fun s0_ s1_ s2_ s3_ s4_ s5_ s6_ _ hi => hX s0_ s1_ s2_ s3_ s4_ s5_ s6_ _ (fun s0_' s1_' s2_' s3_' s4_' s5_' s6_' h => absurd h.2 (by omega)) (h s0_ s1_ s2_ s3_ s4_ s5_ s6_ hi)
    | succ k ih => exact fun s0_ s1_ s2_ s3_ s4_ s5_ s6_ hk hi => hX s0_ s1_ s2_ s3_ s4_ s5_ s6_ _ (fun s0_' s1_' s2_' s3_' s4_' s5_' s6_' h => ih s0_' s1_' s2_' s3_' s4_' s5_' s6_' (by omega) h.1) (h s0_ s1_ s2_ s3_ s4_ s5_ s6_ hi)
  exact key _ s0_ s1_ s2_ s3_ s4_ s5_ s6_ (Nat.le_refl _) h0
def Lp8 {T0 T1 T2 T3 T4 T5 T6 T7 : Type} (body : T0 → T1 → T2 → T3 → T4 → T5 → T6 → T7 → (T0 → T1 → T2 → T3 → T4 → T5 → T6 → T7 → Prop) → Prop) (s0_ : T0) (s1_ : T1) (s2_ : T2) (s3_ : T3) (s4_ : T4) (s5_ : T5) (s6_ : T6) (s7_ : T7) : Prop := ∀ X : T0 → T1 → T2 → T3 → T4 → T5 → T6 → T7 → Prop, (∀ s0_' s1_' s2_' s3_' s4_' s5_' s6_' s7_' Y, (∀ s0_ s1_ s2_ s3_ s4_ s5_ s6_ s7_, Y s0_ s1_ s2_ s3_ s4_ s5_ s6_ s7_ → X s0_ s1_ s2_ s3_ s4_ s5_ s6_ s7_) → body s0_' s1_' s2_' s3_' s4_' s5_' s6_' s7_' Y → X s0_' s1_' s2_' s3_' s4_' s5_' s6_' s7_') → X s0_ s1_ s2_ s3_ s4_ s5_ s6_ s7_
theorem Lp8.ind {T0 T1 T2 T3 T4 T5 T6 T7 : Type} {body : T0 → T1 → T2 → T3 → T4 → T5 → T6 → T7 → (T0 → T1 → T2 → T3 → T4 → T5 → T6 → T7 → Prop) → Prop} (I : T0 → T1 → T2 → T3 → T4 → T5 → T6 → T7 → Prop) (m : T0 → T1 → T2 → T3 → T4 → T5 → T6 → T7 → Nat) (h : ∀ s0_ s1_ s2_ s3_ s4_ s5_ s6_ s7_, I s0_ s1_ s2_ s3_ s4_ s5_ s6_ s7_ → body s0_ s1_ s2_ s3_ s4_ s5_ s6_ s7_ (fun s0_' s1_' s2_' s3_' s4_' s5_' s6_' s7_' => I s0_' s1_' s2_' s3_' s4_' s5_' s6_' s7_' ∧ m s0_' s1_' s2_' s3_' s4_' s5_' s6_' s7_' < m s0_ s1_ s2_ s3_ s4_ s5_ s6_ s7_)) {s0_ : T0} {s1_ : T1} {s2_ : T2} {s3_ : T3} {s4_ : T4} {s5_ : T5} {s6_ : T6} {s7_ : T7} (h0 : I s0_ s1_ s2_ s3_ s4_ s5_ s6_ s7_) : Lp8 body s0_ s1_ s2_ s3_ s4_ s5_ s6_ s7_ := by
  intro X hX
  have key : ∀ (k : Nat) (s0_ : T0) (s1_ : T1) (s2_ : T2) (s3_ : T3) (s4_ : T4) (s5_ : T5) (s6_ : T6) (s7_ : T7), m s0_ s1_ s2_ s3_ s4_ s5_ s6_ s7_ ≤ k → I s0_ s1_ s2_ s3_ s4_ s5_ s6_ s7_ → X s0_ s1_ s2_ s3_ s4_ s5_ s6_ s7_ := by
    intro k
    induction k with
    | zero => exact fun s0_ s1_ s2_ s3_ s4_ s5_ s6_ s7_ _ hi => hX s0_ s1_ s2_ s3_ s4_ s5_ s6_ s7_ _ (fun s0_' s1_' s2_' s3_' s4_' s5_' s6_' s7_' h => absurd h.2 (by omega)) (h s0_ s1_ s2_ s3_ s4_ s5_ s6_ s7_ hi)
    | succ k ih => exact fun s0_ s1_ s2_ s3_ s4_ s5_ s6_ s7_ hk hi => hX s0_ s1_ s2_ s3_ s4_ s5_ s6_ s7_ _ (fun s0_' s1_' s2_' s3_' s4_' s5_' s6_' s7_' h => ih s0_' s1_' s2_' s3_' s4_' s5_' s6_' s7_' (by omega) h.1) (h s0_ s1_ s2_ s3_ s4_ s5_ s6_ s7_ hi)
  exact key _ s0_ s1_ s2_ s3_ s4_ s5_ s6_ s7_ (Nat.le_refl _) h0
def Lp9 {T0 T1 T2 T3 T4 T5 T6 T7 T8 : Type} (body : T0 → T1 → T2 → T3 → T4 → T5 → T6 → T7 → T8 → (T0 → T1 → T2 → T3 → T4 → T5 → T6 → T7 → T8 → Prop) → Prop) (s0_ : T0) (s1_ : T1) (s2_ : T2) (s3_ : T3) (s4_ : T4) (s5_ : T5) (s6_ : T6) (s7_ : T7) (s8_ : T8) : Prop := ∀ X : T0 → T1 → T2 → T3 → T4 → T5 → T6 → T7 → T8 → Prop, (∀ s0_' s1_' s2_' s3_' s4_' s5_' s6_' s7_' s8_' Y, (∀ s0_ s1_ s2_ s3_ s4_ s5_ s6_ s7_ s8_, Y s0_ s1_ s2_ s3_ s4_ s5_ s6_ s7_ s8_ → X s0_ s1_ s2_ s3_ s4_ s5_ s6_ s7_ s8_) → body s0_' s1_' s2_' s3_' s4_' s5_' s6_' s7_' s8_' Y → X s0_' s1_' s2_' s3_' s4_' s5_' s6_' s7_' s8_') → X s0_ s1_ s2_ s3_ s4_ s5_ s6_ s7_ s8_
theorem Lp9.ind {T0 T1 T2 T3 T4 T5 T6 T7 T8 : Type} {body : T0 → T1 → T2 → T3 → T4 → T5 → T6 → T7 → T8 → (T0 → T1 → T2 → T3 → T4 → T5 → T6 → T7 → T8 → Prop) → Prop} (I : T0 → T1 → T2 → T3 → T4 → T5 → T6 → T7 → T8 → Prop) (m : T0 → T1 → T2 → T3 → T4 → T5 → T6 → T7 → T8 → Nat) (h : ∀ s0_ s1_ s2_ s3_ s4_ s5_ s6_ s7_ s8_, I s0_ s1_ s2_ s3_ s4_ s5_ s6_ s7_ s8_ → body s0_ s1_ s2_ s3_ s4_ s5_ s6_ s7_ s8_ (fun s0_' s1_' s2_' s3_' s4_' s5_' s6_' s7_' s8_' => I s0_' s1_' s2_' s3_' s4_' s5_' s6_' s7_' s8_' ∧ m s0_' s1_' s2_' s3_' s4_' s5_' s6_' s7_' s8_' < m s0_ s1_ s2_ s3_ s4_ s5_ s6_ s7_ s8_)) {s0_ : T0} {s1_ : T1} {s2_ : T2} {s3_ : T3} {s4_ : T4} {s5_ : T5} {s6_ : T6} {s7_ : T7} {s8_ : T8} (h0 : I s0_ s1_ s2_ s3_ s4_ s5_ s6_ s7_ s8_) : Lp9 body s0_ s1_ s2_ s3_ s4_ s5_ s6_ s7_ s8_ := by
  intro X hX
  have key : ∀ (k : Nat) (s0_ : T0) (s1_ : T1) (s2_ : T2) (s3_ : T3) (s4_ : T4) (s5_ : T5) (s6_ : T6) (s7_ : T7) (s8_ : T8), m s0_ s1_ s2_ s3_ s4_ s5_ s6_ s7_ s8_ ≤ k → I s0_ s1_ s2_ s3_ s4_ s5_ s6_ s7_ s8_ → X s0_ s1_ s2_ s3_ s4_ s5_ s6_ s7_ s8_ := by
    intro k
    induction k with
    | zero => exact fun s0_ s1_ s2_ s3_ s4_ s5_ s6_ s7_ s8_ _ hi => hX s0_ s1_ s2_ s3_ s4_ s5_ s6_ s7_ s8_ _ (fun s0_' s1_' s2_' s3_' s4_' s5_' s6_' s7_' s8_' h => absurd h.2 (by omega)) (h s0_ s1_ s2_ s3_ s4_ s5_ s6_ s7_ s8_ hi)
    | succ k ih => exact fun s0_ s1_ s2_ s3_ s4_ s5_ s6_ s7_ s8_ hk hi => hX s0_ s1_ s2_ s3_ s4_ s5_ s6_ s7_ s8_ _ (fun s0_' s1_' s2_' s3_' s4_' s5_' s6_' s7_' s8_' h => ih s0_' s1_' s2_' s3_' s4_' s5_' s6_' s7_' s8_' (by omega) h.1) (h s0_ s1_ s2_ s3_ s4_ s5_ s6_ s7_ s8_ hi)
  exact key _ s0_ s1_ s2_ s3_ s4_ s5_ s6_ s7_ s8_ (Nat.le_refl _) h0
def Lp10 {T0 T1 T2 T3 T4 T5 T6 T7 T8 T9 : Type} (body : T0 → T1 → T2 → T3 → T4 → T5 → T6 → T7 → T8 → T9 → (T0 → T1 → T2 → T3 → T4 → T5 → T6 → T7 → T8 → T9 → Prop) → Prop) (s0_ : T0) (s1_ : T1) (s2_ : T2) (s3_ : T3) (s4_ : T4) (s5_ : T5) (s6_ : T6) (s7_ : T7) (s8_ : T8) (s9_ : T9) : Prop := ∀ X : T0 → T1 → T2 → T3 → T4 → T5 → T6 → T7 → T8 → T9 → Prop, (∀ s0_' s1_' s2_' s3_' s4_' s5_' s6_' s7_' s8_' s9_' Y, (∀ s0_ s1_ s2_ s3_ s4_ s5_ s6_ s7_ s8_ s9_, Y s0_ s1_ s2_ s3_ s4_ s5_ s6_ s7_ s8_ s9_ → X s0_ s1_ s2_ s3_ s4_ s5_ s6_ s7_ s8_ s9_) → body s0_' s1_' s2_' s3_' s4_' s5_' s6_' s7_' s8_' s9_' Y → X s0_' s1_' s2_' s3_' s4_' s5_' s6_' s7_' s8_' s9_') → X s0_ s1_ s2_ s3_ s4_ s5_ s6_ s7_ s8_ s9_
theorem Lp10.ind {T0 T1 T2 T3 T4 T5 T6 T7 T8 T9 : Type} {body : T0 → T1 → T2 → T3 → T4 → T5 → T6 → T7 → T8 → T9 → (T0 → T1 → T2 → T3 → T4 → T5 → T6 → T7 → T8 → T9 → Prop) → Prop} (I : T0 → T1 → T2 → T3 → T4 → T5 → T6 → T7 → T8 → T9 → Prop) (m : T0 → T1 → T2 → T3 → T4 → T5 → T6 → T7 → T8 → T9 → Nat) (h : ∀ s0_ s1_ s2_ s3_ s4_ s5_ s6_ s7_ s8_ s9_, I s0_ s1_ s2_ s3_ s4_ s5_ s6_ s7_ s8_ s9_ → body s0_ s1_ s2_ s3_ s4_ s5_ s6_ s7_ s8_ s9_ (fun s0_' s1_' s2_' s3_' s4_' s5_' s6_' s7_' s8_' s9_' => I s0_' s1_' s2_' s3_' s4_' s5_' s6_' s7_' s8_' s9_' ∧ m s0_' s1_' s2_' s3_' s4_' s5_' s6_' s7_' s8_' s9_' < m s0_ s1_ s2_ s3_ s4_ s5_ s6_ s7_ s8_ s9_)) {s0_ : T0} {s1_ : T1} {s2_ : T2} {s3_ : T3} {s4_ : T4} {s5_ : T5} {s6_ : T6} {s7_ : T7} {s8_ : T8} {s9_ : T9} (h0 : I s0_ s1_ s2_ s3_ s4_ s5_ s6_ s7_ s8_ s9_) : Lp10 body s0_ s1_ s2_ s3_ s4_ s5_ s6_ s7_ s8_ s9_ := by
  intro X hX
  have key : ∀ (k : Nat) (s0_ : T0) (s1_ : T1) (s2_ : T2) (s3_ : T3) (s4_ : T4) (s5_ : T5) (s6_ : T6) (s7_ : T7) (s8_ : T8) (s9_ : T9), m s0_ s1_ s2_ s3_ s4_ s5_ s6_ s7_ s8_ s9_ ≤ k → I s0_ s1_ s2_ s3_ s4_ s5_ s6_ s7_ s8_ s9_ → X s0_ s1_ s2_ s3_ s4_ s5_ s6_ s7_ s8_ s9_ := by
    intro k
    induction k with
    | zero => exact fun s0_ s1_ s2_ s3_ s4_ s5_ s6_ s7_ s8_ s9_ _ hi => hX s0_ s1_ s2_ s3_ s4_ s5_ s6_ s7_ s8_ s9_ _ (fun s0_' s1_' s2_' s3_' s4_' s5_' s6_' s7_' s8_' s9_' h => absurd h.2 (by omega)) (h s0_ s1_ s2_ s3_ s4_ s5_ s6_ s7_ s8_ s9_ hi)
    | succ k ih => exact fun s0_ s1_ s2_ s3_ s4_ s5_ s6_ s7_ s8_ s9_ hk hi => hX s0_ s1_ s2_ s3_ s4_ s5_ s6_ s7_ s8_ s9_ _ (fun s0_' s1_' s2_' s3_' s4_' s5_' s6_' s7_' s8_' s9_' h => ih s0_' s1_' s2_' s3_' s4_' s5_' s6_' s7_' s8_' s9_' (by omega) h.1) (h s0_ s1_ s2_ s3_ s4_ s5_ s6_ s7_ s8_ s9_ hi)
  exact key _ s0_ s1_ s2_ s3_ s4_ s5_ s6_ s7_ s8_ s9_ (Nat.le_refl _) h0
def Lp11 {T0 T1 T2 T3 T4 T5 T6 T7 T8 T9 T10 : Type} (body : T0 → T1 → T2 → T3 → T4 → T5 → T6 → T7 → T8 → T9 → T10 → (T0 → T1 → T2 → T3 → T4 → T5 → T6 → T7 → T8 → T9 → T10 → Prop) → Prop) (s0_ : T0) (s1_ : T1) (s2_ : T2) (s3_ : T3) (s4_ : T4) (s5_ : T5) (s6_ : T6) (s7_ : T7) (s8_ : T8) (s9_ : T9) (s10_ : T10) : Prop := ∀ X : T0 → T1 → T2 → T3 → T4 → T5 → T6 → T7 → T8 → T9 → T10 → Prop, (∀ s0_' s1_' s2_' s3_' s4_' s5_' s6_' s7_' s8_' s9_' s10_' Y, (∀ s0_ s1_ s2_ s3_ s4_ s5_ s6_ s7_ s8_ s9_ s10_, Y s0_ s1_ s2_ s3_ s4_ s5_ s6_ s7_ s8_ s9_ s10_ → X s0_ s1_ s2_ s3_ s4_ s5_ s6_ s7_ s8_ s9_ s10_) → body s0_' s1_' s2_' s3_' s4_' s5_' s6_' s7_' s8_' s9_' s10_' Y → X s0_' s1_' s2_' s3_' s4_' s5_' s6_' s7_' s8_' s9_' s10_') → X s0_ s1_ s2_ s3_ s4_ s5_ s6_ s7_ s8_ s9_ s10_
theorem Lp11.ind {T0 T1 T2 T3 T4 T5 T6 T7 T8 T9 T10 : Type} {body : T0 → T1 → T2 → T3 → T4 → T5 → T6 → T7 → T8 → T9 → T10 → (T0 → T1 → T2 → T3 → T4 → T5 → T6 → T7 → T8 → T9 → T10 → Prop) → Prop} (I : T0 → T1 → T2 → T3 → T4 → T5 → T6 → T7 → T8 → T9 → T10 → Prop) (m : T0 → T1 → T2 → T3 → T4 → T5 → T6 → T7 → T8 → T9 → T10 → Nat) (h : ∀ s0_ s1_ s2_ s3_ s4_ s5_ s6_ s7_ s8_ s9_ s10_, I s0_ s1_ s2_ s3_ s4_ s5_ s6_ s7_ s8_ s9_ s10_ → body s0_ s1_ s2_ s3_ s4_ s5_ s6_ s7_ s8_ s9_ s10_ (fun s0_' s1_' s2_' s3_' s4_' s5_' s6_' s7_' s8_' s9_' s10_' => I s0_' s1_' s2_' s3_' s4_' s5_' s6_' s7_' s8_' s9_' s10_' ∧ m s0_' s1_' s2_' s3_' s4_' s5_' s6_' s7_' s8_' s9_' s10_' < m s0_ s1_ s2_ s3_ s4_ s5_ s6_ s7_ s8_ s9_ s10_)) {s0_ : T0} {s1_ : T1} {s2_ : T2} {s3_ : T3} {s4_ : T4} {s5_ : T5} {s6_ : T6} {s7_ : T7} {s8_ : T8} {s9_ : T9} {s10_ : T10} (h0 : I s0_ s1_ s2_ s3_ s4_ s5_ s6_ s7_ s8_ s9_ s10_) : Lp11 body s0_ s1_ s2_ s3_ s4_ s5_ s6_ s7_ s8_ s9_ s10_ := by
  intro X hX
  have key : ∀ (k : Nat) (s0_ : T0) (s1_ : T1) (s2_ : T2) (s3_ : T3) (s4_ : T4) (s5_ : T5) (s6_ : T6) (s7_ : T7) (s8_ : T8) (s9_ : T9) (s10_ : T10), m s0_ s1_ s2_ s3_ s4_ s5_ s6_ s7_ s8_ s9_ s10_ ≤ k → I s0_ s1_ s2_ s3_ s4_ s5_ s6_ s7_ s8_ s9_ s10_ → X s0_ s1_ s2_ s3_ s4_ s5_ s6_ s7_ s8_ s9_ s10_ := by
    intro k
    induction k with
    | zero => exact fun s0_ s1_ s2_ s3_ s4_ s5_ s6_ s7_ s8_ s9_ s10_ _ hi => hX s0_ s1_ s2_ s3_ s4_ s5_ s6_ s7_ s8_ s9_ s10_ _ (fun s0_' s1_' s2_' s3_' s4_' s5_' s6_' s7_' s8_' s9_' s10_' h => absurd h.2 (by omega)) (h s0_ s1_ s2_ s3_ s4_ s5_ s6_ s7_ s8_ s9_ s10_ hi)
    | succ k ih => exact fun s0_ s1_ s2_ s3_ s4_ s5_ s6_ s7_ s8_ s9_ s10_ hk hi => hX s0_ s1_ s2_ s3_ s4_ s5_ s6_ s7_ s8_ s9_ s10_ _ (fun s0_' s1_' s2_' s3_' s4_' s5_' s6_' s7_' s8_' s9_' s10_' h => ih s0_' s1_' s2_' s3_' s4_' s5_' s6_' s7_' s8_' s9_' s10_' (by omega) h.1) (h s0_ s1_ s2_ s3_ s4_ s5_ s6_ s7_ s8_ s9_ s10_ hi)
  exact key _ s0_ s1_ s2_ s3_ s4_ s5_ s6_ s7_ s8_ s9_ s10_ (Nat.le_refl _) h0
def Lp12 {T0 T1 T2 T3 T4 T5 T6 T7 T8 T9 T10 T11 : Type} (body : T0 → T1 → T2 → T3 → T4 → T5 → T6 → T7 → T8 → T9 → T10 → T11 → (T0 → T1 → T2 → T3 → T4 → T5 → T6 → T7 → T8 → T9 → T10 → T11 → Prop) → Prop) (s0_ : T0) (s1_ : T1) (s2_ : T2) (s3_ : T3) (s4_ : T4) (s5_ : T5) (s6_ : T6) (s7_ : T7) (s8_ : T8) (s9_ : T9) (s10_ : T10) (s11_ : T11) : Prop := ∀ X : T0 → T1 → T2 → T3 → T4 → T5 → T6 → T7 → T8 → T9 → T10 → T11 → Prop, (∀ s0_' s1_' s2_' s3_' s4_' s5_' s6_' s7_' s8_' s9_' s10_' s11_' Y, (∀ s0_ s1_ s2_ s3_ s4_ s5_ s6_ s7_ s8_ s9_ s10_ s11_, Y s0_ s1_ s2_ s3_ s4_ s5_ s6_ s7_ s8_ s9_ s10_ s11_ → X s0_ s1_ s2_ s3_ s4_ s5_ s6_ s7_ s8_ s9_ s10_ s11_) → body s0_' s1_' s2_' s3_' s4_' s5_' s6_' s7_' s8_' s9_' s10_' s11_' Y → X s0_' s1_' s2_' s3_' s4_' s5_' s6_' s7_' s8_' s9_' s10_' s11_') → X s0_ s1_ s2_ s3_ s4_ s5_ s6_ s7_ s8_ s9_ s10_ s11_
theorem Lp12.ind {T0 T1 T2 T3 T4 T5 T6 T7 T8 T9 T10 T11 : Type} {body : T0 → T1 → T2 → T3 → T4 → T5 → T6 → T7 → T8 → T9 → T10 → T11 → (T0 → T1 → T2 → T3 → T4 → T5 → T6 → T7 → T8 → T9 → T10 → T11 → Prop) → Prop} (I : T0 → T1 → T2 → T3 → T4 → T5 → T6 → T7 → T8 → T9 → T10 → T11 → Prop) (m : T0 → T1 → T2 → T3 → T4 → T5 → T6 → T7 → T8 → T9 → T10 → T11 → Nat) (h : ∀ s0_ s1_ s2_ s3_ s4_ s5_ s6_ s7_ s8_ s9_ s10_ s11_, I s0_ s1_ s2_ s3_ s4_ s5_ s6_ s7_ s8_ s9_ s10_ s11_ → body s0_ s1_ s2_ s3_ s4_ s5_ s6_ s7_ s8_ s9_ s10_ s11_ (fun s0_' s1_' s2_' s3_' s4_' s5_' s6_' s7_' s8_' s9_' s10_' s11_' => I s0_' s1_' s2_' s3_' s4_' s5_' s6_' s7_' s8_' s9_' s10_' s11_' ∧ m s0_' s1_' s2_' s3_' s4_' s5_' s6_' s7_' s8_' s9_' s10_' s11_' < m s0_ s1_ s2_ s3_ s4_ s5_ s6_ s7_ s8_ s9_ s10_ s11_)) {s0_ : T0} {s1_ : T1} {s2_ : T2} {s3_ : T3} {s4_ : T4} {s5_ : T5} {s6_ : T6} {s7_ : T7} {s8_ : T8} {s9_ : T9} {s10_ : T10} {s11_ : T11} (h0 : I s0_ s1_ s2_ s3_ s4_ s5_ s6_ s7_ s8_ s9_ s10_ s11_) : Lp12 body s0_ s1_ s2_ s3_ s4_ s5_ s6_ s7_ s8_ s9_ s10_ s11_ := by
  intro X hX
  have key : ∀ (k : Nat) (s0_ : T0) (s1_ : T1) (s2_ : T2) (s3_ : T3) (s4_ : T4) (s5_ : T5) (s6_ : T6) (s7_ : T7) (s8_ : T8) (s9_ : T9) (s10_ : T10) (s11_ : T11), m s0_ s1_ s2_ s3_ s4_ s5_ s6_ s7_ s8_ s9_ s10_ s11_ ≤ k → I s0_ s1_ s2_ s3_ s4_ s5_ s6_ s7_ s8_ s9_ s10_ s11_ → X s0_ s1_ s2_ s3_ s4_ s5_ s6_ s7_ s8_ s9_ s10_ s11_ := by
    intro k
    induction k with
    | zero => exact fun s0_ s1_ s2_ s3_ s4_ s5_ s6_ s7_ s8_ s9_ s10_ s11_ _ hi => hX s0_ s1_ s2_ s3_ s4_ s5_ s6_ s7_ s8_ s9_ s10_ s11_ _ (fun s0_' s1_' s2_' s3_' s4_' s5_' s6_' s7_' s8_' s9_' s10_' s11_' h => absurd h.2 (by omega)) (h s0_ s1_ s2_ s3_ s4_ s5_ s6_ s7_ s8_ s9_ s10_ s11_ hi)
    | succ k ih => exact fun s0_ s1_ s2_ s3_ s4_ s5_ s6_ s7_ s8_ s9_ s10_ s11_ hk hi => hX s0_ s1_ s2_ s3_ s4_ s5_ s6_ s7_ s8_ s9_ s10_ s11_ _ (fun s0_' s1_' s2_' s3_' s4_' s5_' s6_' s7_' s8_' s9_' s10_' s11_' h => ih s0_' s1_' s2_' s3_' s4_' s5_' s6_' s7_' s8_' s9_' s10_' s11_' (by omega) h.1) (h s0_ s1_ s2_ s3_ s4_ s5_ s6_ s7_ s8_ s9_ s10_ s11_ hi)
  exact key _ s0_ s1_ s2_ s3_ s4_ s5_ s6_ s7_ s8_ s9_ s10_ s11_ (Nat.le_refl _) h0
end Go.Fl
end
/- One rule an operation: maps whose keys are strings, made by the call itself. Conditions: none; every rule speaks of any program. -/
section
namespace Go.Fl
open Go Go.RowKit

variable {P : Program} {ops : Array Oper} {Q : Exit → Act → World → Prop} {rest : List Oper} {n : Nat} {f : Fr} {w w' : World} {d : Nat} {t : TypeId} {p : String} {af : Array Edge}
variable {c : Cx} {σ : Hv} {ms ms' : List HObj}

/-- The first entry of a key. -/
def keyIs (v : Value) (k : ByteArray) : Bool :=
  match v with
  | .string a => decide (a = k)
  | _ => false
def lk : List MapEntry → ByteArray → Option Value
  | [], _ => none
  | e :: es, k => if keyIs e.key k = true then some e.val else lk es k
theorem keyIs_string (a k : ByteArray) : keyIs (.string a) k = decide (a = k) := rfl
def StrKeys (es : List MapEntry) : Prop := ∀ e ∈ es, ∃ k, e.key = .string k

/-- Keys and stamps differ, and the stamps are past. -/
def MBk (es : List MapEntry) (clock : Nat) : Prop := (es.map (·.key)).Nodup ∧ (es.map (·.born)).Nodup ∧ ∀ x ∈ es.map (·.born), x < clock
theorem modify_map {β : Type} (g : MapEntry → β) (u : MapEntry → MapEntry) {es : List MapEntry} {j : Nat} (h : ∀ e, es[j]? = some e → g (u e) = g e) : (es.modify j u).map g = es.map g := by
  apply List.ext_getElem?
  intro i
  rw [List.getElem?_map, List.getElem?_map, List.getElem?_modify]
  by_cases hij : j = i
  · subst hij
    rcases hq : es[j]? with _ | e
    · rfl
    · simp [h e hq]
  · simp [hij]
theorem lk_none {es : List MapEntry} {k : ByteArray} (h : lk es k = none) : ∀ e ∈ es, e.key ≠ .string k := by
  induction es with
  | nil => simp
  | cons x xs ih =>
    intro e he hk
    simp only [lk] at h
    split at h
    · cases h
    · rename_i hx
      rcases List.mem_cons.1 he with rfl | he
      · rw [hk] at hx; simp [keyIs] at hx
      · exact ih h e he hk
theorem MBk.push {es : List MapEntry} {clock : Nat} (h : MBk es clock) {k : ByteArray} (hn : lk es k = none) (v : Value) : MBk (es ++ [{ key := .string k, val := v, born := clock }]) (clock + 1) := by
  refine ⟨?_, ?_, ?_⟩
  · rw [List.map_append, List.map_singleton]
    refine List.nodup_append.2 ⟨h.1, by simp, fun a ha b hb => ?_⟩
    obtain ⟨e, he, rfl⟩ := List.mem_map.1 ha
    rw [List.mem_singleton.1 hb]
    exact lk_none hn e he
  · rw [List.map_append, List.map_singleton]
    refine List.nodup_append.2 ⟨h.2.1, by simp, fun a ha b hb => ?_⟩
    rw [List.mem_singleton.1 hb]
    exact Nat.ne_of_lt (h.2.2 a ha)
  · intro x hx
    rw [List.map_append, List.map_singleton] at hx
    rcases List.mem_append.1 hx with hx | hx
    · exact Nat.lt_succ_of_lt (h.2.2 x hx)
    · rw [List.mem_singleton.1 hx]; exact Nat.lt_succ_self _
/-- A map of the call's own, as a function. -/
def smap (b : Nat) (m : ByteArray → Option Value) : HObj where
  foot := some b
  ok w := ∃ es clock, w.heap[b]? = some (.map es clock) ∧ StrKeys es.toList ∧ (∀ k, lk es.toList k = m k) ∧ MBk es.toList clock
  stay w w' h hk := by
    obtain ⟨es, clock, h1, h2⟩ := hk
    exact ⟨es, clock, (h b rfl).trans h1, h2⟩
  lt w k hk hf := by
    cases hf
    obtain ⟨es, clock, h1, _⟩ := hk
    exact (Array.getElem?_eq_some_iff.1 h1).1

theorem sameNow_string (a b : ByteArray) : Instr.sameNow .string (.string a) (.string b) = some (decide (a = b)) := by
  obtain ⟨r, h1, h2⟩ := MapKept.sameNow_of_keys (d := .string) (a := .string a) (b := .string b) (by simp [MapKept.IsKey]) (by simp [MapKept.IsKey])
  rw [h1]
  congr 1
  rw [Bool.eq_iff_iff, h2]
  simp

theorem find_str (k : ByteArray) : ∀ (es : List MapEntry) (i : Nat), StrKeys es → ∃ r, Instr.findNow .string (.string k) es i = some r ∧
    ((r = none ∧ lk es k = none) ∨ ∃ j v, r = some (i + j, v) ∧ lk es k = some v ∧ (∃ e, es[j]? = some e ∧ e.key = .string k) ∧
      ∀ (g : MapEntry → MapEntry) (u : Value), (∀ e, (g e).val = u) → (∀ e, e.key = .string k → (g e).key = .string k) → ∀ k', lk (es.modify j g) k' = if k' = k then some u else lk es k')
  | [], i, _ => ⟨none, rfl, .inl ⟨rfl, rfl⟩⟩
  | e :: es, i, h => by
    obtain ⟨a, ha⟩ := h e (by simp)
    by_cases hk : k = a
    · subst hk
      refine ⟨some (i, e.val), by simp [Instr.findNow, ha, sameNow_string], .inr ⟨0, e.val, rfl, by simp [lk, ha, keyIs], ⟨e, rfl, ha⟩, fun g u hg hg2 k' => ?_⟩⟩
      by_cases hk' : k' = k
      · subst hk'
        simp [lk, hg2 e ha, hg, keyIs]
      · have h1 : ¬ (k = k') := fun e => hk' e.symm
        simp [lk, hg2 e ha, ha, h1, hk', keyIs]
    · obtain ⟨r, hr, hd⟩ := find_str k es (i + 1) fun e he => h e (by simp [he])
      have hak : ¬ a = k := fun e => hk e.symm
      refine ⟨r, by simp [Instr.findNow, ha, sameNow_string, hk, hr], ?_⟩
      rcases hd with ⟨h1, h2⟩ | ⟨j, v, h1, h2, h3, h4⟩
      · exact .inl ⟨h1, by simp [lk, ha, hak, h2, keyIs]⟩
      · refine .inr ⟨j + 1, v, by rw [h1]; congr 2; omega, by simp [lk, ha, hak, h2, keyIs], by simpa using h3, fun g u hg hg2 k' => ?_⟩
        have := h4 g u hg hg2 k'
        simp only [List.modify_succ_cons, lk, ha, this, keyIs]
        by_cases hk' : k' = k
        · subst hk'; simp [hak]
        · simp [hk']

theorem lk_push (es : List MapEntry) (e : MapEntry) (k : ByteArray) (hk : e.key = .string k) (hn : lk es k = none) (k' : ByteArray) : lk (es ++ [e]) k' = if k' = k then some e.val else lk es k' := by
  induction es with
  | nil =>
    by_cases h : k' = k
    · subst h; simp [lk, hk, keyIs]
    · have : ¬ k = k' := fun e => h e.symm
      simp [lk, hk, h, this, keyIs]
  | cons x es ih =>
    simp only [lk] at hn
    split at hn
    · cases hn
    · rename_i hx
      simp only [List.cons_append, lk, ih hn]
      by_cases h : k' = k
      · subst h; simp [hx]
      · simp [h]

theorem checkKey_string {ty : TypeId} (hk : P.underlying ty = some .string) (b : Bool) (k : ByteArray) (w : World) : (Instr.checkKey b 10000 ty (.string k)).run P w = .ok () w := by
  unfold Instr.checkKey
  simp [Sem.run_bind, run_underlying hk]

theorem findKey_string {ty : TypeId} (hk : P.underlying ty = some .string) {k : ByteArray} {es : List MapEntry} {r : Option (Nat × Value)} (h : Instr.findNow .string (.string k) es 0 = some r) (w : World) : (Instr.findKey ty (.string k) es).run P w = .ok r w := by
  unfold Instr.findKey
  simp [Sem.run_bind, run_underlying hk, h]

theorem o_makemap {ty : TypeId} (hS : St c w σ ms)
    (h : ∀ b w', St c w' σ (smap b (fun _ => none) :: ms) → wpList P ops Q rest (mk n (upd f d (.map (some b)))) w') : wpList P ops Q (⟨some d, .makeMap ty none, t, p, af, none⟩ :: rest) (mk n f) w := by
  refine o_val rfl rfl (v := .map (some w.heap.size)) (w' := w.alloc (.map #[] 0)) ?_ ?_
  · simp [execOp, Instr.makeMap]
  · refine h _ _ (hS.add (alloc_keeps w _) ⟨#[], 0, ?_, by simp [StrKeys], fun k => rfl, by simp [MBk]⟩ (by rintro k ⟨⟩; exact Nat.le_refl _))
    exact heap_alloc_new _ _

/-- m[k], the element's zero value where the key is not there. -/
theorem run_look {ty kt et : TypeId} {b : Nat} {m : ByteArray → Option Value} {k : ByteArray} {z : Value} (hu : P.underlying ty = some (.map kt et)) (hk : P.underlying kt = some .string) (hz : ∀ w, (zeroValue et).run P w = .ok z w) (ho : (smap b m).ok w) (cok : Bool) :
    (Instr.lookup ty (.map (some b)) (.string k) cok).run P w = .ok (if cok then .tuple #[(m k).getD z, .bool (m k).isSome] else (m k).getD z) w := by
  obtain ⟨es, clock, h1, h2, h3, _⟩ := ho
  obtain ⟨r, hr, hd⟩ := find_str k es.toList 0 h2
  rw [h3] at hd
  unfold Instr.lookup
  rcases hd with ⟨rfl, hm⟩ | ⟨j, v, rfl, hm, _⟩
  · cases cok <;> simp [Sem.run_bind, run_underlying hu, MapKept.run_getObj_map h1, checkKey_string hk, findKey_string hk hr, hz, hm]
  · cases cok <;> simp [Sem.run_bind, run_underlying hu, MapKept.run_getObj_map h1, checkKey_string hk, findKey_string hk hr, hm]

theorem o_look {ty kt et : TypeId} {x y : Operand} {b i : Nat} {m : ByteArray → Option Value} {k : ByteArray} {z v : Value} (hS : St c w σ ms) (hx : ev n f x = .map (some b)) (hy : ev n f y = .string k) (hi : ms[i]? = some (smap b m))
    (hu : P.underlying ty = some (.map kt et)) (hk : P.underlying kt = some .string) (hz : ∀ w, (zeroValue et).run P w = .ok z w) (hv : (m k).getD z = v)
    (h : wpList P ops Q rest (mk n (upd f d v)) w) : wpList P ops Q (⟨some d, .lookup ty x y false, t, p, af, none⟩ :: rest) (mk n f) w :=
  o_val rfl rfl (by subst hv; simp only [execOp, hx, hy, Sem.run_bind, run_look hu hk hz (hS.get hi) false, Result.andThen_ok]; rfl) h
theorem o_look_ok {ty kt et : TypeId} {x y : Operand} {b i : Nat} {m : ByteArray → Option Value} {k : ByteArray} {z v : Value} {r : Bool} (hS : St c w σ ms) (hx : ev n f x = .map (some b)) (hy : ev n f y = .string k) (hi : ms[i]? = some (smap b m))
    (hu : P.underlying ty = some (.map kt et)) (hk : P.underlying kt = some .string) (hz : ∀ w, (zeroValue et).run P w = .ok z w) (hv : (m k).getD z = v) (hr : (m k).isSome = r)
    (h : wpList P ops Q rest (mk n (upd f d (.tuple #[v, .bool r]))) w) : wpList P ops Q (⟨some d, .lookup ty x y true, t, p, af, none⟩ :: rest) (mk n f) w :=
  o_val rfl rfl (by subst hv; subst hr; simp only [execOp, hx, hy, Sem.run_bind, run_look hu hk hz (hS.get hi) true, Result.andThen_ok]; rfl) h

theorem run_put {ty kt et : TypeId} {b : Nat} {m : ByteArray → Option Value} {k : ByteArray} {v : Value} (hu : P.underlying ty = some (.map kt et)) (hk : P.underlying kt = some .string) (ho : (smap b m).ok w) :
    ∃ w', (Instr.mapUpdate ty (.map (some b)) (.string k) v).run P w = .ok () w' ∧ Keeps [b] w w' ∧ (smap b (fun k' => if k' = k then some v else m k')).ok w' := by
  obtain ⟨es, clock, h1, h2, h3, h4⟩ := ho
  have hlt : b < w.heap.size := (Array.getElem?_eq_some_iff.1 h1).1
  obtain ⟨r, hr, hd⟩ := find_str k es.toList 0 h2
  have hkeep : ∀ o : Obj, Keeps [b] w { w with heap := w.heap.setIfInBounds b o } := fun o =>
    ⟨rfl, rfl, rfl, by simp, fun j hj hm => by
      show (w.heap.setIfInBounds b o)[j]? = _
      rw [Array.getElem?_setIfInBounds, if_neg (by intro e; exact hm (by simp [e]))]⟩
  have hget : ∀ o : Obj, ({ w with heap := w.heap.setIfInBounds b o } : World).heap[b]? = some o := fun o => by
    show (w.heap.setIfInBounds b o)[b]? = _
    rw [Array.getElem?_setIfInBounds, if_pos rfl, if_pos hlt]
  rcases hd with ⟨rfl, hm⟩ | ⟨j, v0, rfl, hm, ⟨e, he, hek⟩, hg⟩
  · refine ⟨_, ?_, hkeep (.map (es.push { key := .string k, val := v, born := clock }) (clock + 1)), ⟨_, _, hget _, ?_, fun k' => ?_, ?_⟩⟩
    · unfold Instr.mapUpdate
      simp [Sem.run_bind, run_underlying hu, MapKept.run_getObj_map h1, checkKey_string hk, findKey_string hk hr, MapKept.run_setObj_map _ h1]
    · intro e he
      simp only [Array.toList_push, List.mem_append, List.mem_singleton] at he
      rcases he with he | rfl
      · exact h2 e he
      · exact ⟨k, rfl⟩
    · rw [Array.toList_push, lk_push _ _ k rfl hm, h3]
    · rw [Array.toList_push]; exact h4.push hm v
  · have hkt : ∀ w, (Instr.keyThatStays (((es[j]?).map (·.key)).getD (.string k)) (.string k)).run P w = .ok (.string k) w := fun w => by
      have : es[j]? = some e := by rw [← he]; simp
      rw [this]
      simp only [Option.map_some, Option.getD_some, hek]
      unfold Instr.keyThatStays
      have hkk : (k == k) = true := by simpa [Instr.sameNow] using sameNow_string k k
      simp [Instr.sameBits, hkk]
    refine ⟨_, ?_, hkeep (.map (es.modify j fun e => { e with key := .string k, val := v }) clock), ⟨_, _, hget _, ?_, fun k' => ?_, ?_⟩⟩
    · unfold Instr.mapUpdate
      rw [Nat.zero_add] at hr
      simp [Sem.run_bind, run_underlying hu, MapKept.run_getObj_map h1, checkKey_string hk, findKey_string hk hr, hkt, MapKept.run_setObj_map _ h1]
    · intro e' he'
      rw [Array.toList_modify] at he'
      obtain ⟨q, hq⟩ := List.mem_iff_getElem?.1 he'
      rw [List.getElem?_modify] at hq
      simp only [Option.map_eq_map, Option.map_eq_some_iff] at hq
      obtain ⟨x, hx, rfl⟩ := hq
      split
      · exact ⟨k, rfl⟩
      · exact h2 x (List.mem_of_getElem? hx)
    · rw [Array.toList_modify, hg _ v (fun _ => rfl) (fun _ _ => rfl), h3]
    · rw [Array.toList_modify]
      have m1 := modify_map (es := es.toList) (j := j) (·.key) (fun e : MapEntry => { e with key := .string k, val := v }) (fun e' he' => by rw [he] at he'; cases he'; exact hek.symm)
      have m2 := modify_map (es := es.toList) (j := j) (·.born) (fun e : MapEntry => { e with key := .string k, val := v }) (fun _ _ => rfl)
      refine ⟨?_, ?_, ?_⟩
      · rw [m1]; exact h4.1
      · rw [m2]; exact h4.2.1
      · rw [m2]; exact h4.2.2

theorem o_put {ty kt et : TypeId} {x y u : Operand} {b i : Nat} {m : ByteArray → Option Value} {k : ByteArray} {v : Value} (hS : St c w σ ms) (hx : ev n f x = .map (some b)) (hy : ev n f y = .string k) (hv : ev n f u = v) (hi : ms[i]? = some (smap b m))
    (hu : P.underlying ty = some (.map kt et)) (hk : P.underlying kt = some .string) (hms : ms.set i (smap b (fun k' => if k' = k then some v else m k')) = ms')
    (h : ∀ w', St c w' σ ms' → wpList P ops Q rest (mk n f) w') : wpList P ops Q (⟨none, .mapUpdate ty x y u, t, p, af, none⟩ :: rest) (mk n f) w := by
  subst hv
  obtain ⟨w', hr, hkp, ho⟩ := run_put (k := k) (v := ev n f u) hu hk (hS.get hi)
  refine o_skip rfl rfl (by simp only [execOp, hx, hy, Sem.run_bind, hr, Result.andThen_ok]; rfl) (h _ (hS.step hi hkp ho (by rintro k ⟨⟩; exact .inl rfl) hms hS.view.none_of_ge))
/-! A map by what its elements stand for. -/
theorem smap_congr {b : Nat} {m m' : ByteArray → Option Value} (h : ∀ k, m k = m' k) : smap b m = smap b m' := by
  have : m = m' := funext h
  rw [this]
def emap {α : Type} (b : Nat) (enc : α → Value) (F : ByteArray → Option α) : HObj := smap b (fun k => (F k).map enc)
theorem emap_put {α : Type} (b : Nat) (enc : α → Value) (F : ByteArray → Option α) (k : ByteArray) (y : α) : smap b (fun k' => if k' = k then some (enc y) else (F k').map enc) = emap b enc (put F k y) :=
  smap_congr fun k' => by unfold put; split <;> simp [*]
theorem o_emake {α : Type} {ty : TypeId} (enc : α → Value) (hS : St c w σ ms)
    (h : ∀ b w', St c w' σ (emap b enc (fun _ => none) :: ms) → wpList P ops Q rest (mk n (upd f d (.map (some b)))) w') : wpList P ops Q (⟨some d, .makeMap ty none, t, p, af, none⟩ :: rest) (mk n f) w :=
  o_makemap hS fun b w' h' => h b w' h'
theorem o_elook {α : Type} {enc : α → Value} {F : ByteArray → Option α} {ty kt et : TypeId} {x y : Operand} {b i : Nat} {k : ByteArray} {z v : Value} (hS : St c w σ ms) (hx : ev n f x = .map (some b)) (hy : ev n f y = .string k) (hi : ms[i]? = some (emap b enc F))
    (hu : P.underlying ty = some (.map kt et)) (hk : P.underlying kt = some .string) (hz : ∀ w, (zeroValue et).run P w = .ok z w) (hv : ((F k).map enc).getD z = v)
    (h : wpList P ops Q rest (mk n (upd f d v)) w) : wpList P ops Q (⟨some d, .lookup ty x y false, t, p, af, none⟩ :: rest) (mk n f) w :=
  o_look hS hx hy hi hu hk hz hv h
theorem o_elook_ok {α : Type} {enc : α → Value} {F : ByteArray → Option α} {ty kt et : TypeId} {x y : Operand} {b i : Nat} {k : ByteArray} {z v : Value} {r : Bool} (hS : St c w σ ms) (hx : ev n f x = .map (some b)) (hy : ev n f y = .string k) (hi : ms[i]? = some (emap b enc F))
    (hu : P.underlying ty = some (.map kt et)) (hk : P.underlying kt = some .string) (hz : ∀ w, (zeroValue et).run P w = .ok z w) (hv : ((F k).map enc).getD z = v) (hr : (F k).isSome = r)
    (h : wpList P ops Q rest (mk n (upd f d (.tuple #[v, .bool r]))) w) : wpList P ops Q (⟨some d, .lookup ty x y true, t, p, af, none⟩ :: rest) (mk n f) w :=
  o_look_ok hS hx hy hi hu hk hz hv (by rw [← hr]; simp) h
theorem o_eput {α : Type} {enc : α → Value} {F : ByteArray → Option α} {y0 : α} {ty kt et : TypeId} {x y u : Operand} {b i : Nat} {k : ByteArray} (hS : St c w σ ms) (hx : ev n f x = .map (some b)) (hy : ev n f y = .string k) (hv : ev n f u = enc y0) (hi : ms[i]? = some (emap b enc F))
    (hu : P.underlying ty = some (.map kt et)) (hk : P.underlying kt = some .string) (hms : ms.set i (emap b enc (put F k y0)) = ms')
    (h : ∀ w', St c w' σ ms' → wpList P ops Q rest (mk n f) w') : wpList P ops Q (⟨none, .mapUpdate ty x y u, t, p, af, none⟩ :: rest) (mk n f) w :=
  o_put hS hx hy hv hi hu hk (by rw [emap_put]; exact hms) h
theorem o_eins {α : Type} {enc : α → Value} {F : ByteArray → Option α} {y0 : α} {ty kt et : TypeId} {x y u : Operand} {b i : Nat} {k : ByteArray} (hS : St c w σ ms) (hx : ev n f x = .map (some b)) (hy : ev n f y = .string k) (hv : ev n f u = enc y0) (hi : ms[i]? = some (emap b enc F))
    (hu : P.underlying ty = some (.map kt et)) (hk : P.underlying kt = some .string) (hms : ms.set i (emap b enc (put F k y0)) = ms')
    (h : ∀ w', St c w' σ ms' → wpList P ops Q rest (mk n f) w') : wpList P ops Q (⟨none, .insert ty x y u, t, p, af, none⟩ :: rest) (mk n f) w := by
  subst hms
  obtain ⟨w', hr, hkp, ho⟩ := run_put (k := k) (v := ev n f u) hu hk (hS.get hi)
  rw [hv] at ho hr
  rw [emap_put] at ho
  refine o_skip rfl rfl (by simp only [execOp, hx, hy, hv, Sem.run_bind, hr, Result.andThen_ok]; rfl) (h _ (hS.step hi hkp ho (by rintro k ⟨⟩; exact .inl rfl) rfl hS.view.none_of_ge))

/-! Strings compared. -/
open Lk in
theorem less_blt (a b : ByteArray) : Op.bytesLess a.toList b.toList = decide (blt a b) := by
  rw [Go.Proofs.bytesLess_eq, Lib.toList_data, Lib.toList_data]; rfl
open Lk in
theorem o_lsss {xt yt : TypeId} {x y : Operand} {a b : ByteArray} {r : Bool} (hx : ev n f x = .string a) (hy : ev n f y = .string b) (hr : decide (blt a b) = r)
    (h : wpList P ops Q rest (mk n (upd f d (.bool r))) w) : wpList P ops Q (⟨some d, .binOp .lss xt x y yt, t, p, af, none⟩ :: rest) (mk n f) w :=
  o_val rfl rfl (by subst hr; simp [execOp, hx, hy, eqGuard, binOp, Op.stringOp, less_blt]) h
open Lk in
theorem geq_blt (a b : ByteArray) : (!(decide (blt a b) || decide (a = b))) = decide (blt b a) := by
  by_cases h : blt a b
  · simp [h, blt_asymm h]
  · by_cases h2 : a = b
    · subst h2; simp [blt_irrefl]
    · have : blt b a := Classical.byContradiction fun h3 => h2 (blt_tri h h3)
      simp [h, h2, this]
open Lk in
theorem o_gtrs {xt yt : TypeId} {x y : Operand} {a b : ByteArray} {r : Bool} (hx : ev n f x = .string a) (hy : ev n f y = .string b) (hr : decide (blt b a) = r)
    (h : wpList P ops Q rest (mk n (upd f d (.bool r))) w) : wpList P ops Q (⟨some d, .binOp .gtr xt x y yt, t, p, af, none⟩ :: rest) (mk n f) w :=
  o_val rfl rfl (by subst hr; rw [← geq_blt]; simp [execOp, hx, hy, eqGuard, binOp, Op.stringOp, less_blt, bytes_beq]) h
open Lk in
theorem o_leqs {xt yt : TypeId} {x y : Operand} {a b : ByteArray} {r : Bool} (hx : ev n f x = .string a) (hy : ev n f y = .string b) (hr : (!decide (blt b a)) = r)
    (h : wpList P ops Q rest (mk n (upd f d (.bool r))) w) : wpList P ops Q (⟨some d, .binOp .leq xt x y yt, t, p, af, none⟩ :: rest) (mk n f) w :=
  o_val rfl rfl (by subst hr; rw [← geq_blt]; simp [execOp, hx, hy, eqGuard, binOp, Op.stringOp, less_blt, bytes_beq]) h
open Lk in
theorem o_geqs {xt yt : TypeId} {x y : Operand} {a b : ByteArray} {r : Bool} (hx : ev n f x = .string a) (hy : ev n f y = .string b) (hr : (!decide (blt a b)) = r)
    (h : wpList P ops Q rest (mk n (upd f d (.bool r))) w) : wpList P ops Q (⟨some d, .binOp .geq xt x y yt, t, p, af, none⟩ :: rest) (mk n f) w :=
  o_val rfl rfl (by subst hr; simp [execOp, hx, hy, eqGuard, binOp, Op.stringOp, less_blt]) h
open Lk in
theorem o_maxs {tx ty : TypeId} {x y : Operand} {a b r : ByteArray} (hx : ev n f x = .string a) (hy : ev n f y = .string b) (hr : (if blt a b then b else a) = r)
    (h : wpList P ops Q rest (mk n (upd f d (.string r))) w) : wpList P ops Q (⟨some d, .call ⟨.builtin .max, #[x, y], #[tx, ty]⟩, t, p, af, none⟩ :: rest) (mk n f) w :=
  o_val rfl rfl (by subst hr; simp [execOp, hx, hy, resolve, invoke, builtin, Builtin.max_, Builtin.max2, Op.stringOp, less_blt, asBool]) h
open Lk in
theorem o_mins {tx ty : TypeId} {x y : Operand} {a b r : ByteArray} (hx : ev n f x = .string a) (hy : ev n f y = .string b) (hr : (if blt b a then b else a) = r)
    (h : wpList P ops Q rest (mk n (upd f d (.string r))) w) : wpList P ops Q (⟨some d, .call ⟨.builtin .min, #[x, y], #[tx, ty]⟩, t, p, af, none⟩ :: rest) (mk n f) w :=
  o_val rfl rfl (by
    have hm : (if blt b a then b else a) = (if blt a b ∨ a = b then a else b) := by
      have h1 := geq_blt a b
      by_cases h2 : blt b a
      · rw [if_pos h2, if_neg (by intro h3; simp [h2] at h1; exact h3.elim h1.1 h1.2)]
      · rw [if_neg h2, if_pos (by simp [h2] at h1; by_cases h4 : blt a b; exact .inl h4; exact .inr (h1 h4))]
    subst hr; rw [hm]; simp [execOp, hx, hy, resolve, invoke, builtin, Builtin.min_, Builtin.min2, Op.stringOp, less_blt, bytes_beq, asBool]) h
/-! Encodings of links and of texts. -/
def encLk (x : Lk.L3) : List Value := [.string x.1, .string x.2.1, .int .i64 x.2.2]
theorem encLk_len (x : Lk.L3) : (encLk x).length = 3 := rfl
def encTx (x : ByteArray) : List Value := [.string x]
theorem encTx_len (x : ByteArray) : (encTx x).length = 1 := rfl
theorem encTx_one (x : ByteArray) : ∀ u ∈ encTx x, u.oneCell' = true := by
  intro u hu; simp [encTx] at hu; subst hu; rfl
theorem encLk_one (x : Lk.L3) : ∀ u ∈ encLk x, u.oneCell' = true := by
  intro u hu; simp [encLk] at hu; rcases hu with rfl | rfl | rfl <;> rfl
theorem o_eqlb {xt yt : TypeId} {x y : Operand} {a b r : Bool} (hu : P.underlying xt = some .bool) (hx : ev n f x = .bool a) (hy : ev n f y = .bool b) (hr : (a == b) = r)
    (h : wpList P ops Q rest (mk n (upd f d (.bool r))) w) : wpList P ops Q (⟨some d, .binOp .eql xt x y yt, t, p, af, none⟩ :: rest) (mk n f) w :=
  o_val rfl rfl (by subst hr; simp [execOp, hx, hy, eqGuard, run_eql_bool _ _ _ _ hu]) h
end Go.Fl
end
/- The library's sort and Compact of strings, in the words of the walks: a slice of the call's own is sorted, and cut to its different elements. Conditions: the two contracts off the shelf, as hypotheses. -/
section
namespace Go.Fl
open Go Go.RowKit

/-! ### Plain -/
def toB (x : List UInt8) : ByteArray := ⟨x.toArray⟩
theorem toB_data (x : ByteArray) : toB x.data.toList = x := by unfold toB; simp
theorem data_toB (x : List UInt8) : (toB x).data.toList = x := by unfold toB; simp
def srt (l : List ByteArray) : List ByteArray := ((l.map (·.data.toList)).mergeSort fun x y => decide (x ≤ y)).map toB
def cpt (l : List ByteArray) : List ByteArray := (Lib.compact (l.map (·.data.toList))).map toB
theorem srt_length (l : List ByteArray) : (srt l).length = l.length := by simp [srt]
theorem mem_srt (l : List ByteArray) (y : ByteArray) : y ∈ srt l ↔ y ∈ l := by
  unfold srt
  simp only [List.mem_map, List.mem_mergeSort]
  constructor
  · rintro ⟨x, ⟨z, hz, rfl⟩, rfl⟩; rw [toB_data]; exact hz
  · exact fun h => ⟨_, ⟨y, h, rfl⟩, toB_data y⟩
theorem lle_total (x y : List UInt8) : x ≤ y ∨ y ≤ x := by
  by_cases h : y < x
  · exact .inr (List.not_lt.1 fun k => List.lt_irrefl x (List.lt_trans k h))
  · exact .inl (List.not_lt.1 h)
theorem lle_trans {x y z : List UInt8} (h : x ≤ y) (k : y ≤ z) : x ≤ z := List.le_trans h k
theorem compact_steps (zs : List (List UInt8)) (hs : zs.Pairwise (· ≤ ·)) : ∀ m, m ≤ zs.length →
    (Lib.compactUpTo zs.toArray m).Pairwise (· < ·) ∧ (∀ y, y ∈ Lib.compactUpTo zs.toArray m ↔ ∃ j, j < m ∧ zs[j]? = some y) ∧ (∀ y ∈ Lib.compactUpTo zs.toArray m, ∀ z, zs[m - 1]? = some z → y ≤ z) ∧ (0 < m → Lib.compactUpTo zs.toArray m ≠ []) := by
  intro m
  induction m with
  | zero => intro _; exact ⟨by simp [Lib.compactUpTo], by simp [Lib.compactUpTo], by simp [Lib.compactUpTo], by omega⟩
  | succ m ih =>
    intro hm
    obtain ⟨h1, h2, h3, h4⟩ := ih (by omega)
    have hg : zs[m]? = some zs[m] := List.getElem?_eq_getElem (by omega)
    have hd : zs.toArray[m]! = zs[m] := by simp [show m < zs.length by omega]
    have hp := List.pairwise_iff_getElem.1 hs
    rw [Lib.compactUpTo_succ, hd]
    by_cases hk : Lib.keeps zs.toArray m = true
    · rw [if_pos hk]
      have hlt : ∀ y ∈ Lib.compactUpTo zs.toArray m, y < zs[m] := by
        intro y hy
        obtain ⟨j, hj, hjy⟩ := (h2 y).1 hy
        have hm0 : 0 < m := by omega
        have hg1 : zs[m - 1]? = some zs[m - 1] := List.getElem?_eq_getElem (by omega)
        have hd1 : zs.toArray[m - 1]! = zs[m - 1] := by simp [show m - 1 < zs.length by omega]
        have hy1 := h3 y hy _ hg1
        have hle : zs[m - 1] ≤ zs[m] := hp (m - 1) m (by omega) (by omega) (by omega)
        simp only [Lib.keeps, decide_eq_true_eq, hd, hd1] at hk
        rcases hk with hk | hk
        · omega
        · refine Classical.byContradiction fun hc => hk ?_
          exact List.le_antisymm (lle_trans (List.not_lt.1 hc) hy1) hle
      refine ⟨?_, fun y => ?_, ?_, by simp⟩
      · rw [List.pairwise_append]
        exact ⟨h1, by simp, fun a ha b hb => by simp at hb; subst hb; exact hlt a ha⟩
      · simp only [List.mem_append, List.mem_singleton, h2]
        constructor
        · rintro (⟨j, hj, hjy⟩ | rfl)
          · exact ⟨j, by omega, hjy⟩
          · exact ⟨m, by omega, hg⟩
        · rintro ⟨j, hj, hjy⟩
          rcases Nat.lt_or_ge j m with hjm | hjm
          · exact .inl ⟨j, hjm, hjy⟩
          · have : j = m := by omega
            subst this
            rw [hg] at hjy; cases hjy; exact .inr rfl
      · intro y hy z hz
        simp only [Nat.add_sub_cancel, hg, Option.some.injEq] at hz
        subst hz
        rcases List.mem_append.1 hy with hy | hy
        · exact List.not_lt.1 fun k => List.lt_irrefl _ (List.lt_trans k (hlt y hy))
        · simp at hy; subst hy; exact List.not_lt.1 (List.lt_irrefl _)
    · rw [if_neg hk, List.append_nil]
      simp only [Lib.keeps, decide_eq_true_eq, hd, not_or, Classical.not_not] at hk
      obtain ⟨hm0, hke⟩ := hk
      have hd1 : zs.toArray[m - 1]! = zs[m - 1] := by simp [show m - 1 < zs.length by omega]
      rw [hd1] at hke
      have hg1 : zs[m - 1]? = some zs[m - 1] := List.getElem?_eq_getElem (by omega)
      refine ⟨h1, fun y => ?_, ?_, fun _ => h4 (by omega)⟩
      · rw [h2]
        constructor
        · rintro ⟨j, hj, hjy⟩; exact ⟨j, by omega, hjy⟩
        · rintro ⟨j, hj, hjy⟩
          rcases Nat.lt_or_ge j m with hjm | hjm
          · exact ⟨j, hjm, hjy⟩
          · have : j = m := by omega
            subst this
            rw [hg] at hjy
            exact ⟨j - 1, by omega, by rw [hg1, ← hke]; exact hjy⟩
      · intro y hy z hz
        simp only [Nat.add_sub_cancel, hg, Option.some.injEq] at hz
        subst hz
        rw [hke]
        exact h3 y hy _ hg1
theorem srt_sorted (l : List ByteArray) : ((srt l).map (·.data.toList)).Pairwise (· ≤ ·) := by
  have h := List.pairwise_mergeSort (le := fun x y : List UInt8 => decide (x ≤ y)) (fun a b c h1 h2 => by simp only [decide_eq_true_eq] at *; exact lle_trans h1 h2) (fun a b => by simpa using lle_total a b) (l.map (·.data.toList))
  unfold srt
  rw [List.map_map]
  have : ((fun x : ByteArray => x.data.toList) ∘ toB) = id := funext fun x => data_toB x
  rw [this, List.map_id]
  exact h.imp fun h => by simpa using h
/-- Sorted and cut: ascending, with the same members. -/
theorem cpt_srt (l : List ByteArray) : Lk.Asc (cpt (srt l)) ∧ (∀ y, y ∈ cpt (srt l) ↔ y ∈ l) ∧ (l ≠ [] → cpt (srt l) ≠ []) ∧ (cpt (srt l)).length ≤ l.length := by
  obtain ⟨h1, h2, _, h4⟩ := compact_steps _ (srt_sorted l) _ (Nat.le_refl _)
  refine ⟨?_, fun y => ?_, fun hne => ?_, ?_⟩
  · unfold Lk.Asc cpt Lib.compact
    rw [List.pairwise_map]
    exact h1.imp fun {a b} h => by show (toB a).data.toList < (toB b).data.toList; rw [data_toB, data_toB]; exact h
  · rw [← mem_srt l y]
    unfold cpt Lib.compact
    simp only [List.mem_map, h2]
    constructor
    · rintro ⟨x, ⟨j, _, hj⟩, rfl⟩
      obtain ⟨z, hz, rfl⟩ := List.mem_map.1 (List.mem_of_getElem? hj)
      rw [toB_data]; exact hz
    · intro hy
      obtain ⟨j, hj⟩ := List.mem_iff_getElem?.1 hy
      refine ⟨y.data.toList, ⟨j, ?_, ?_⟩, toB_data y⟩
      · have := (List.getElem?_eq_some_iff.1 hj).1; simpa using this
      · simp [hj]
  · unfold cpt Lib.compact
    have hl : 0 < ((srt l).map (·.data.toList)).length := by
      rw [List.length_map, srt_length]; exact List.length_pos_iff.2 hne
    intro he
    exact h4 hl (List.map_eq_nil_iff.1 he)
  · unfold cpt Lib.compact Lib.compactUpTo
    simp only [List.length_map]
    refine Nat.le_trans (List.length_filter_le _ _) ?_
    simp [srt_length]

/-! ### At the call -/
variable {P : Program} {w : World} {σ : Hv}
theorem flat_encTx (l : List ByteArray) : l.flatMap encTx = (l.map (·.data.toList)).map Proofs.encStr := by
  rw [Go.Lib.map_encStr]
  induction l with
  | nil => rfl
  | cons x l ih => rw [List.flatMap_cons, ih]; rfl
theorem St.growV {c : Cx} {w1 : World} {ms ms' : List HObj} (h : St c w σ ms) {i : Nat} {o o' : HObj} (hi : ms[i]? = some o) (g : Grow o.foot.toList σ w σ w1)
    (hf : o'.foot = o.foot) (ho : o'.ok w1) (hms : ms.set i o' = ms') : St c w1 σ ms' :=
  h.step hi g.keeps ho (fun k hk => .inl (by rw [← hf]; exact hk)) hms h.view.none_of_ge
theorem grow_of_grownBy {w1 : World} {row : Option Nat} (hV : View σ w) (hg : w.grownBy w1 row) (hσ : ∀ b, row = some b → σ b = none) : Grow row.toList σ w σ w1 := by
  refine ⟨⟨hg.os, hg.tape, hg.output, hg.size, fun k hk hm => hg.block k hk (fun e => hm (by rw [← e]; simp))⟩, fun b o hb => ?_, .refl _, fun _ _ _ => rfl⟩
  have hw := hV b o hb
  rw [hg.block b (lt_of_block hw) (fun e => by rw [hσ b e.symm] at hb; cases hb)]
  exact hw
open Go.Sort Go.Proofs in
theorem sort_vec {fid : FuncId} (c1 : ∀ (blk off cap : Nat) (ss : List (List UInt8)) (w : World), Holds encStr w blk off ss.toArray → blk < w.heap.size → ss.length < 4611686018427387904 →
      Calls P fid #[.slice (some ⟨blk, off, none⟩) ss.length cap] w fun e w' => e = .returned (.tuple #[]) ∧ ∃ n os, w' = grow (putRow encStr (Sort.ahead w n) blk off (ss.mergeSort fun x y => decide (x ≤ y)).toArray) os)
    (c0 : ∀ (p : Option Addr) (cap : Nat) (w : World), Calls P fid #[.slice p 0 cap] w fun e w' => e = .returned (.tuple #[]) ∧ w' = w)
    {v : Value} {T : TypeId} {l : List ByteArray} {n : Nat} (hV : View σ w) (ho : (vec v T 1 n (l.flatMap encTx)).ok w) (hn : l.length = n) (hoff : ∀ b, v.ownBlock = some b → σ b = none) (hl : n < 4611686018427387904) :
    Calls P fid #[v] w fun e w1 => e = .returned (.tuple #[]) ∧ Grow v.ownBlock.toList σ w σ w1 ∧ (vec v T 1 n ((srt l).flatMap encTx)).ok w1 := by
  subst hn
  have ho' : w.ownsRow 0 T 1 v l.length (l.flatMap encTx) := ho
  rcases ho'.2 with ⟨rfl, h0⟩ | ⟨g, cap, cur, rfl, hb0, hb, h1, h2, h3, h4⟩
  · have : l = [] := List.eq_nil_of_length_eq_zero h0
    subst this
    refine (c0 none 0 w).mono ?_
    rintro e w1 ⟨rfl, rfl⟩
    exact ⟨rfl, ⟨.refl _ _, hV, .refl _, fun _ _ _ => rfl⟩, by simpa [srt] using ho⟩
  · have h4' : cur.toList.take (l.map (·.data.toList)).length = (l.map (·.data.toList)).map encStr := by rw [List.length_map, ← flat_encTx]; simpa using h4
    have hc := c1 g 0 cap (l.map (·.data.toList)) w (holds_of_block hb h4') (Array.getElem?_eq_some_iff.1 hb).1 (by simpa using hl)
    rw [List.length_map] at hc
    refine hc.mono ?_
    rintro e w1 ⟨rfl, q, os, rfl⟩
    refine ⟨rfl, grow_of_grownBy hV (grownBy_sorted _) hoff, ?_⟩
    have hr := ownsRow_sorted (n := q) (os := os) (ss := l.map (·.data.toList)) (ts := (l.map (·.data.toList)).mergeSort fun x y => decide (x ≤ y)) (by simp) hb0 hb (by simpa using h1) h2 (by simpa using h3)
    rw [List.length_map] at hr
    show World.ownsRow _ 0 T 1 _ l.length ((srt l).flatMap encTx)
    rw [flat_encTx]
    have e1 : (srt l).map (·.data.toList) = (l.map (·.data.toList)).mergeSort fun x y => decide (x ≤ y) := by
      unfold srt
      rw [List.map_map]
      have : ((fun x : ByteArray => x.data.toList) ∘ toB) = id := funext fun x => data_toB x
      rw [this, List.map_id]
    rw [e1]
    exact hr
open Go.Sort Go.Proofs in
theorem grownBy_put {g q : Nat} (d : Array (List UInt8)) : w.grownBy (putRow encStr (Sort.ahead w q) g 0 d) (some g) := by
  have h := grownBy_sorted (w := w) (g := g) (n := q) (os := #[]) d
  rwa [grow_empty] at h
open Go.Sort Go.Proofs in
theorem compact_vec {fid : FuncId} (c1 : ∀ (blk off cap : Nat) (zs : List (List UInt8)) (w : World), Holds encStr w blk off zs.toArray → zs.length ≤ 9223372036854775807 → zs.length ≤ cap →
      Calls P fid #[.slice (some ⟨blk, off, none⟩) zs.length cap] w fun e w' => e = .returned (.slice (some ⟨blk, off, none⟩) (Lib.compact zs).length cap) ∧ ∃ q, w' = putRow encStr (Sort.ahead w q) blk off (Lib.compact zs ++ List.replicate (zs.length - (Lib.compact zs).length) []).toArray)
    (c0 : ∀ (a : Option Addr) (cap : Nat) (w : World), Calls P fid #[.slice a 0 cap] w fun e w' => e = .returned (.slice a 0 cap) ∧ w' = w)
    {v : Value} {T : TypeId} {l : List ByteArray} {n : Nat} (hV : View σ w) (ho : (vec v T 1 n (l.flatMap encTx)).ok w) (hn : l.length = n) (hoff : ∀ b, v.ownBlock = some b → σ b = none) (hl : n ≤ 9223372036854775807) :
    Calls P fid #[v] w fun e w1 => ∃ v1, e = .returned v1 ∧ v1.ownBlock = v.ownBlock ∧ Grow v.ownBlock.toList σ w σ w1 ∧ (vec v1 T 1 (cpt l).length ((cpt l).flatMap encTx)).ok w1 := by
  subst hn
  have ho' : w.ownsRow 0 T 1 v l.length (l.flatMap encTx) := ho
  rcases ho'.2 with ⟨rfl, h0⟩ | ⟨g, cap, cur, rfl, hb0, hb, h1, h2, h3, h4⟩
  · have : l = [] := List.eq_nil_of_length_eq_zero h0
    subst this
    refine (c0 none 0 w).mono ?_
    rintro e w1 ⟨rfl, rfl⟩
    exact ⟨_, rfl, rfl, ⟨.refl _ _, hV, .refl _, fun _ _ _ => rfl⟩, ho⟩
  · have h4' : cur.toList.take (l.map (·.data.toList)).length = (l.map (·.data.toList)).map encStr := by rw [List.length_map, ← flat_encTx]; simpa using h4
    have hc := c1 g 0 cap (l.map (·.data.toList)) w (holds_of_block hb h4') (by simpa using hl) (by simpa using h1)
    rw [List.length_map] at hc
    refine hc.mono ?_
    rintro e w1 ⟨rfl, q, rfl⟩
    have hle : (Lib.compact (l.map (·.data.toList))).length ≤ l.length := by
      unfold Lib.compact Lib.compactUpTo
      rw [List.length_map]
      refine Nat.le_trans (List.length_filter_le _ _) ?_
      simp
    refine ⟨_, rfl, rfl, grow_of_grownBy hV (grownBy_put _) hoff, ?_⟩
    have ho2 : w.ownsRow 0 T 1 (.slice (some ⟨g, 0, none⟩) l.length cap) l.length ((l.map (·.data.toList)).map encStr) := by rw [← flat_encTx]; exact ho'
    have hr := Go.Lib.ownsRow_putRow (q := q) (k := (Lib.compact (l.map (·.data.toList))).length) (ys := Lib.compact (l.map (·.data.toList)) ++ List.replicate (l.length - (Lib.compact (l.map (·.data.toList))).length) []) ho2 (by simp; omega) hle
    rw [List.take_left'  rfl] at hr
    have e1 : (cpt l).map (·.data.toList) = Lib.compact (l.map (·.data.toList)) := by
      unfold cpt
      rw [List.map_map]
      have : ((fun x : ByteArray => x.data.toList) ∘ toB) = id := funext fun x => data_toB x
      rw [this, List.map_id]
    have e2 : (cpt l).length = (Lib.compact (l.map (·.data.toList))).length := by unfold cpt; simp
    show World.ownsRow _ 0 T 1 _ (cpt l).length ((cpt l).flatMap encTx)
    rw [flat_encTx, e1, e2]
    exact hr
#print axioms cpt_srt
end Go.Fl
end
/- The rules that tie plain meanings to code. Conditions: none; every rule speaks of any program. -/
section
namespace Go.Fl
open Go Go.RowKit
variable {P : Program} {Q : Exit → Act → World → Prop} {n : Nat} {f : Fr} {w : World}
theorem nwi {a r : Int} (h : a = r) (hi : InI r) : IntKind.i64.wrap a = r := nw h (by rw [h]; exact hi.1) (by rw [h]; exact hi.2)
theorem lp_loop1 {T0 : Type} {c : Code} (I : T0 → Fr → World → Prop) {body : T0 → (T0 → Prop) → Prop} {s0_0} (hL : Lp1 body s0_0) (h0 : I s0_0 f w)
    (round : ∀ s0_1 Y, body s0_1 Y → ∀ f w, I s0_1 f w → c.wp P (Exit.then (fun a' w' => ∃ s0_2 f', a' = mk n f' ∧ Y s0_2 ∧ I s0_2 f' w') Q) (mk n f) w) : (Code.loop c).wp P Q (mk n f) w := by
  intro b k cs
  have key := hL (fun s0_1 => ∀ f w, I s0_1 f w → ∃ e a' w', Q e a' w' ∧ Arrives P (lone (b.at (mk n f) (.code c :: .inLoop c :: k)) cs w) b k cs e a' w') (by
    intro s0_1 Y hY hb f w hI
    obtain ⟨e, a₁, w₁, hq, harr⟩ := round s0_1 Y hb f w hI b (.inLoop c :: k) cs
    cases e with
    | normal =>
      obtain ⟨s0_2, f', rfl, hy, hI₁⟩ := hq
      obtain ⟨e₂, a₂, w₂, hq₂, harr₂⟩ := hY s0_2 hy f' w₁ hI₁
      exact ⟨e₂, a₂, w₂, hq₂, .of_steps (Steps.trans harr (.one step_inLoop)) harr₂⟩
    | exit id => exact ⟨_, a₁, w₁, hq, .pass (x := .inLoop c) rfl (fun _ _ => .inl (by simp)) harr⟩
    | goto l => exact ⟨_, a₁, w₁, hq, .pass (x := .inLoop c) rfl (fun _ _ => .inl (by simp)) harr⟩
    | ret => exact ⟨_, a₁, w₁, hq, .pass (x := .inLoop c) rfl (fun _ _ => .inl (by simp)) harr⟩
    | panic ch => exact ⟨_, a₁, w₁, hq, .pass (x := .inLoop c) rfl (fun _ _ => .inl (by simp)) harr⟩
    | outgrown => exact ⟨_, a₁, w₁, hq, .pass (x := .inLoop c) rfl (fun _ _ => .inl (by simp)) harr⟩)
  obtain ⟨e, a', w', hq, harr⟩ := key f w h0
  exact ⟨e, a', w', hq, .of_steps (.one step_loop) harr⟩
theorem lp_loop2 {T0 T1 : Type} {c : Code} (I : T0 → T1 → Fr → World → Prop) {body : T0 → T1 → (T0 → T1 → Prop) → Prop} {s0_0 s1_0} (hL : Lp2 body s0_0 s1_0) (h0 : I s0_0 s1_0 f w)
    (round : ∀ s0_1 s1_1 Y, body s0_1 s1_1 Y → ∀ f w, I s0_1 s1_1 f w → c.wp P (Exit.then (fun a' w' => ∃ s0_2 s1_2 f', a' = mk n f' ∧ Y s0_2 s1_2 ∧ I s0_2 s1_2 f' w') Q) (mk n f) w) : (Code.loop c).wp P Q (mk n f) w := by
  intro b k cs
  have key := hL (fun s0_1 s1_1 => ∀ f w, I s0_1 s1_1 f w → ∃ e a' w', Q e a' w' ∧ Arrives P (lone (b.at (mk n f) (.code c :: .inLoop c :: k)) cs w) b k cs e a' w') (by
    intro s0_1 s1_1 Y hY hb f w hI
    obtain ⟨e, a₁, w₁, hq, harr⟩ := round s0_1 s1_1 Y hb f w hI b (.inLoop c :: k) cs
    cases e with
    | normal =>
      obtain ⟨s0_2, s1_2, f', rfl, hy, hI₁⟩ := hq
      obtain ⟨e₂, a₂, w₂, hq₂, harr₂⟩ := hY s0_2 s1_2 hy f' w₁ hI₁
      exact ⟨e₂, a₂, w₂, hq₂, .of_steps (Steps.trans harr (.one step_inLoop)) harr₂⟩
    | exit id => exact ⟨_, a₁, w₁, hq, .pass (x := .inLoop c) rfl (fun _ _ => .inl (by simp)) harr⟩
    | goto l => exact ⟨_, a₁, w₁, hq, .pass (x := .inLoop c) rfl (fun _ _ => .inl (by simp)) harr⟩
    | ret => exact ⟨_, a₁, w₁, hq, .pass (x := .inLoop c) rfl (fun _ _ => .inl (by simp)) harr⟩
    | panic ch => exact ⟨_, a₁, w₁, hq, .pass (x := .inLoop c) rfl (fun _ _ => .inl (by simp)) harr⟩
    | outgrown => exact ⟨_, a₁, w₁, hq, .pass (x := .inLoop c) rfl (fun _ _ => .inl (by simp)) harr⟩)
  obtain ⟨e, a', w', hq, harr⟩ := key f w h0
  exact ⟨e, a', w', hq, .of_steps (.one step_loop) harr⟩
theorem lp_loop3 {T0 T1 T2 : Type} {c : Code} (I : T0 → T1 → T2 → Fr → World → Prop) {body : T0 → T1 → T2 → (T0 → T1 → T2 → Prop) → Prop} {s0_0 s1_0 s2_0} (hL : Lp3 body s0_0 s1_0 s2_0) (h0 : I s0_0 s1_0 s2_0 f w)
    (round : ∀ s0_1 s1_1 s2_1 Y, body s0_1 s1_1 s2_1 Y → ∀ f w, I s0_1 s1_1 s2_1 f w → c.wp P (Exit.then (fun a' w' => ∃ s0_2 s1_2 s2_2 f', a' = mk n f' ∧ Y s0_2 s1_2 s2_2 ∧ I s0_2 s1_2 s2_2 f' w') Q) (mk n f) w) : (Code.loop c).wp P Q (mk n f) w := by
  intro b k cs
  have key := hL (fun s0_1 s1_1 s2_1 => ∀ f w, I s0_1 s1_1 s2_1 f w → ∃ e a' w', Q e a' w' ∧ Arrives P (lone (b.at (mk n f) (.code c :: .inLoop c :: k)) cs w) b k cs e a' w') (by
    intro s0_1 s1_1 s2_1 Y hY hb f w hI
    obtain ⟨e, a₁, w₁, hq, harr⟩ := round s0_1 s1_1 s2_1 Y hb f w hI b (.inLoop c :: k) cs
    cases e with
    | normal =>
      obtain ⟨s0_2, s1_2, s2_2, f', rfl, hy, hI₁⟩ := hq
      obtain ⟨e₂, a₂, w₂, hq₂, harr₂⟩ := hY s0_2 s1_2 s2_2 hy f' w₁ hI₁
      exact ⟨e₂, a₂, w₂, hq₂, .of_steps (Steps.trans harr (.one step_inLoop)) harr₂⟩
    | exit id => exact ⟨_, a₁, w₁, hq, .pass (x := .inLoop c) rfl (fun _ _ => .inl (by simp)) harr⟩
    | goto l => exact ⟨_, a₁, w₁, hq, .pass (x := .inLoop c) rfl (fun _ _ => .inl (by simp)) harr⟩
    | ret => exact ⟨_, a₁, w₁, hq, .pass (x := .inLoop c) rfl (fun _ _ => .inl (by simp)) harr⟩
    | panic ch => exact ⟨_, a₁, w₁, hq, .pass (x := .inLoop c) rfl (fun _ _ => .inl (by simp)) harr⟩
    | outgrown => exact ⟨_, a₁, w₁, hq, .pass (x := .inLoop c) rfl (fun _ _ => .inl (by simp)) harr⟩)
  obtain ⟨e, a', w', hq, harr⟩ := key f w h0
  exact ⟨e, a', w', hq, .of_steps (.one step_loop) harr⟩
theorem lp_loop4 {T0 T1 T2 T3 : Type} {c : Code} (I : T0 → T1 → T2 → T3 → Fr → World → Prop) {body : T0 → T1 → T2 → T3 → (T0 → T1 → T2 → T3 → Prop) → Prop} {s0_0 s1_0 s2_0 s3_0} (hL : Lp4 body s0_0 s1_0 s2_0 s3_0) (h0 : I s0_0 s1_0 s2_0 s3_0 f w)
    (round : ∀ s0_1 s1_1 s2_1 s3_1 Y, body s0_1 s1_1 s2_1 s3_1 Y → ∀ f w, I s0_1 s1_1 s2_1 s3_1 f w → c.wp P (Exit.then (fun a' w' => ∃ s0_2 s1_2 s2_2 s3_2 f', a' = mk n f' ∧ Y s0_2 s1_2 s2_2 s3_2 ∧ I s0_2 s1_2 s2_2 s3_2 f' w') Q) (mk n f) w) : (Code.loop c).wp P Q (mk n f) w := by
  intro b k cs
  have key := hL (fun s0_1 s1_1 s2_1 s3_1 => ∀ f w, I s0_1 s1_1 s2_1 s3_1 f w → ∃ e a' w', Q e a' w' ∧ Arrives P (lone (b.at (mk n f) (.code c :: .inLoop c :: k)) cs w) b k cs e a' w') (by
    intro s0_1 s1_1 s2_1 s3_1 Y hY hb f w hI
    obtain ⟨e, a₁, w₁, hq, harr⟩ := round s0_1 s1_1 s2_1 s3_1 Y hb f w hI b (.inLoop c :: k) cs
    cases e with
    | normal =>
      obtain ⟨s0_2, s1_2, s2_2, s3_2, f', rfl, hy, hI₁⟩ := hq
      obtain ⟨e₂, a₂, w₂, hq₂, harr₂⟩ := hY s0_2 s1_2 s2_2 s3_2 hy f' w₁ hI₁
      exact ⟨e₂, a₂, w₂, hq₂, .of_steps (Steps.trans harr (.one step_inLoop)) harr₂⟩
    | exit id => exact ⟨_, a₁, w₁, hq, .pass (x := .inLoop c) rfl (fun _ _ => .inl (by simp)) harr⟩
    | goto l => exact ⟨_, a₁, w₁, hq, .pass (x := .inLoop c) rfl (fun _ _ => .inl (by simp)) harr⟩
    | ret => exact ⟨_, a₁, w₁, hq, .pass (x := .inLoop c) rfl (fun _ _ => .inl (by simp)) harr⟩
    | panic ch => exact ⟨_, a₁, w₁, hq, .pass (x := .inLoop c) rfl (fun _ _ => .inl (by simp)) harr⟩
    | outgrown => exact ⟨_, a₁, w₁, hq, .pass (x := .inLoop c) rfl (fun _ _ => .inl (by simp)) harr⟩)
  obtain ⟨e, a', w', hq, harr⟩ := key f w h0
  exact ⟨e, a', w', hq, .of_steps (.one step_loop) harr⟩
theorem lp_loop5 {T0 T1 T2 T3 T4 : Type} {c : Code} (I : T0 → T1 → T2 → T3 → T4 → Fr → World → Prop) {body : T0 → T1 → T2 → T3 → T4 → (T0 → T1 → T2 → T3 → T4 → Prop) → Prop} {s0_0 s1_0 s2_0 s3_0 s4_0} (hL : Lp5 body s0_0 s1_0 s2_0 s3_0 s4_0) (h0 : I s0_0 s1_0 s2_0 s3_0 s4_0 f w)
    (round : ∀ s0_1 s1_1 s2_1 s3_1 s4_1 Y, body s0_1 s1_1 s2_1 s3_1 s4_1 Y → ∀ f w, I s0_1 s1_1 s2_1 s3_1 s4_1 f w → c.wp P (Exit.then (fun a' w' => ∃ s0_2 s1_2 s2_2 s3_2 s4_2 f', a' = mk n f' ∧ Y s0_2 s1_2 s2_2 s3_2 s4_2 ∧ I s0_2 s1_2 s2_2 s3_2 s4_2 f' w') Q) (mk n f) w) : (Code.loop c).wp P Q (mk n f) w := by
  intro b k cs
  have key := hL (fun s0_1 s1_1 s2_1 s3_1 s4_1 => ∀ f w, I s0_1 s1_1 s2_1 s3_1 s4_1 f w → ∃ e a' w', Q e a' w' ∧ Arrives P (lone (b.at (mk n f) (.code c :: .inLoop c :: k)) cs w) b k cs e a' w') (by
    intro s0_1 s1_1 s2_1 s3_1 s4_1 Y hY hb f w hI
    obtain ⟨e, a₁, w₁, hq, harr⟩ := round s0_1 s1_1 s2_1 s3_1 s4_1 Y hb f w hI b (.inLoop c :: k) cs
    cases e with
    | normal =>
      obtain ⟨s0_2, s1_2, s2_2, s3_2, s4_2, f', rfl, hy, hI₁⟩ := hq
      obtain ⟨e₂, a₂, w₂, hq₂, harr₂⟩ := hY s0_2 s1_2 s2_2 s3_2 s4_2 hy f' w₁ hI₁
      exact ⟨e₂, a₂, w₂, hq₂, .of_steps (Steps.trans harr (.one step_inLoop)) harr₂⟩
    | exit id => exact ⟨_, a₁, w₁, hq, .pass (x := .inLoop c) rfl (fun _ _ => .inl (by simp)) harr⟩
    | goto l => exact ⟨_, a₁, w₁, hq, .pass (x := .inLoop c) rfl (fun _ _ => .inl (by simp)) harr⟩
    | ret => exact ⟨_, a₁, w₁, hq, .pass (x := .inLoop c) rfl (fun _ _ => .inl (by simp)) harr⟩
    | panic ch => exact ⟨_, a₁, w₁, hq, .pass (x := .inLoop c) rfl (fun _ _ => .inl (by simp)) harr⟩
    | outgrown => exact ⟨_, a₁, w₁, hq, .pass (x := .inLoop c) rfl (fun _ _ => .inl (by simp)) harr⟩)
  obtain ⟨e, a', w', hq, harr⟩ := key f w h0
  exact ⟨e, a', w', hq, .of_steps (.one step_loop) harr⟩
theorem lp_loop6 {T0 T1 T2 T3 T4 T5 : Type} {c : Code} (I : T0 → T1 → T2 → T3 → T4 → T5 → Fr → World → Prop) {body : T0 → T1 → T2 → T3 → T4 → T5 → (T0 → T1 → T2 → T3 → T4 → T5 → Prop) → Prop} {s0_0 s1_0 s2_0 s3_0 s4_0 s5_0} (hL : Lp6 body s0_0 s1_0 s2_0 s3_0 s4_0 s5_0) (h0 : I s0_0 s1_0 s2_0 s3_0 s4_0 s5_0 f w)
    (round : ∀ s0_1 s1_1 s2_1 s3_1 s4_1 s5_1 Y, body s0_1 s1_1 s2_1 s3_1 s4_1 s5_1 Y → ∀ f w, I s0_1 s1_1 s2_1 s3_1 s4_1 s5_1 f w → c.wp P (Exit.then (fun a' w' => ∃ s0_2 s1_2 s2_2 s3_2 s4_2 s5_2 f', a' = mk n f' ∧ Y s0_2 s1_2 s2_2 s3_2 s4_2 s5_2 ∧ I s0_2 s1_2 s2_2 s3_2 s4_2 s5_2 f' w') Q) (mk n f) w) : (Code.loop c).wp P Q (mk n f) w := by
  intro b k cs
  have key := hL (fun s0_1 s1_1 s2_1 s3_1 s4_1 s5_1 => ∀ f w, I s0_1 s1_1 s2_1 s3_1 s4_1 s5_1 f w → ∃ e a' w', Q e a' w' ∧ Arrives P (lone (b.at (mk n f) (.code c :: .inLoop c :: k)) cs w) b k cs e a' w') (by
    intro s0_1 s1_1 s2_1 s3_1 s4_1 s5_1 Y hY hb f w hI
    obtain ⟨e, a₁, w₁, hq, harr⟩ := round s0_1 s1_1 s2_1 s3_1 s4_1 s5_1 Y hb f w hI b (.inLoop c :: k) cs
    cases e with
    | normal =>
      obtain ⟨s0_2, s1_2, s2_2, s3_2, s4_2, s5_2, f', rfl, hy, hI₁⟩ := hq
      obtain ⟨e₂, a₂, w₂, hq₂, harr₂⟩ := hY s0_2 s1_2 s2_2 s3_2 s4_2 s5_2 hy f' w₁ hI₁
      exact ⟨e₂, a₂, w₂, hq₂, .of_steps (Steps.trans harr (.one step_inLoop)) harr₂⟩
    | exit id => exact ⟨_, a₁, w₁, hq, .pass (x := .inLoop c) rfl (fun _ _ => .inl (by simp)) harr⟩
    | goto l => exact ⟨_, a₁, w₁, hq, .pass (x := .inLoop c) rfl (fun _ _ => .inl (by simp)) harr⟩
    | ret => exact ⟨_, a₁, w₁, hq, .pass (x := .inLoop c) rfl (fun _ _ => .inl (by simp)) harr⟩
    | panic ch => exact ⟨_, a₁, w₁, hq, .pass (x := .inLoop c) rfl (fun _ _ => .inl (by simp)) harr⟩
    | outgrown => exact ⟨_, a₁, w₁, hq, .pass (x := .inLoop c) rfl (fun _ _ => .inl (by simp)) harr⟩)
  obtain ⟨e, a', w', hq, harr⟩ := key f w h0
  exact ⟨e, a', w', hq, .of_steps (.one step_loop) harr⟩
theorem lp_loop7 {T0 T1 T2 T3 T4 T5 T6 : Type} {c : Code} (I : T0 → T1 → T2 → T3 → T4 → T5 → T6 → Fr → World → Prop) {body : T0 → T1 → T2 → T3 → T4 → T5 → T6 → (T0 → T1 → T2 → T3 → T4 → T5 → T6 → Prop) → Prop} {s0_0 s1_0 s2_0 s3_0 s4_0 s5_0 s6_0} (hL : Lp7 body s0_0 s1_0 s2_0 s3_0 s4_0 s5_0 s6_0) (h0 : I s0_0 s1_0 s2_0 s3_0 s4_0 s5_0 s6_0 f w)
    (round : ∀ s0_1 s1_1 s2_1 s3_1 s4_1 s5_1 s6_1 Y, body s0_1 s1_1 s2_1 s3_1 s4_1 s5_1 s6_1 Y → ∀ f w, I s0_1 s1_1 s2_1 s3_1 s4_1 s5_1 s6_1 f w → c.wp P (Exit.then (fun a' w' => ∃ s0_2 s1_2 s2_2 s3_2 s4_2 s5_2 s6_2 f', a' = mk n f' ∧ Y s0_2 s1_2 s2_2 s3_2 s4_2 s5_2 s6_2 ∧ I s0_2 s1_2 s2_2 s3_2 s4_2 s5_2 s6_2 f' w') Q) (mk n f) w) : (Code.loop c).wp P Q (mk n f) w := by
  intro b k cs
  have key := hL (fun s0_1 s1_1 s2_1 s3_1 s4_1 s5_1 s6_1 => ∀ f w, I s0_1 s1_1 s2_1 s3_1 s4_1 s5_1 s6_1 f w → ∃ e a' w', Q e a' w' ∧ Arrives P (lone (b.at (mk n f) (.code c :: .inLoop c :: k)) cs w) b k cs e a' w') (by
    intro s0_1 s1_1 s2_1 s3_1 s4_1 s5_1 s6_1 Y hY hb f w hI
    obtain ⟨e, a₁, w₁, hq, harr⟩ := round s0_1 s1_1 s2_1 s3_1 s4_1 s5_1 s6_1 Y hb f w hI b (.inLoop c :: k) cs
    cases e with
    | normal =>
      obtain ⟨s0_2, s1_2, s2_2, s3_2, s4_2, s5_2, s6_2, f', rfl, hy, hI₁⟩ := hq
      obtain ⟨e₂, a₂, w₂, hq₂, harr₂⟩ := hY s0_2 s1_2 s2_2 s3_2 s4_2 s5_2 s6_2 hy f' w₁ hI₁
      exact ⟨e₂, a₂, w₂, hq₂, .of_steps (Steps.trans harr (.one step_inLoop)) harr₂⟩
    | exit id => exact ⟨_, a₁, w₁, hq, .pass (x := .inLoop c) rfl (fun _ _ => .inl (by simp)) harr⟩
    | goto l => exact ⟨_, a₁, w₁, hq, .pass (x := .inLoop c) rfl (fun _ _ => .inl (by simp)) harr⟩
    | ret => exact ⟨_, a₁, w₁, hq, .pass (x := .inLoop c) rfl (fun _ _ => .inl (by simp)) harr⟩
    | panic ch => exact ⟨_, a₁, w₁, hq, .pass (x := .inLoop c) rfl (fun _ _ => .inl (by simp)) harr⟩
    | outgrown => exact ⟨_, a₁, w₁, hq, .pass (x := .inLoop c) rfl (fun _ _ => .inl (by simp)) harr⟩)
  obtain ⟨e, a', w', hq, harr⟩ := key f w h0
  exact ⟨e, a', w', hq, .of_steps (.one step_loop) harr⟩
theorem lp_loop8 {T0 T1 T2 T3 T4 T5 T6 T7 : Type} {c : Code} (I : T0 → T1 → T2 → T3 → T4 → T5 → T6 → T7 → Fr → World → Prop) {body : T0 → T1 → T2 → T3 → T4 → T5 → T6 → T7 → (T0 → T1 → T2 → T3 → T4 → T5 → T6 → T7 → Prop) → Prop} {s0_0 s1_0 s2_0 s3_0 s4_0 s5_0 s6_0 s7_0} (hL : Lp8 body s0_0 s1_0 s2_0 s3_0 s4_0 s5_0 s6_0 s7_0) (h0 : I s0_0 s1_0 s2_0 s3_0 s4_0 s5_0 s6_0 s7_0 f w)
    (round : ∀ s0_1 s1_1 s2_1 s3_1 s4_1 s5_1 s6_1 s7_1 Y, body s0_1 s1_1 s2_1 s3_1 s4_1 s5_1 s6_1 s7_1 Y → ∀ f w, I s0_1 s1_1 s2_1 s3_1 s4_1 s5_1 s6_1 s7_1 f w → c.wp P (Exit.then (fun a' w' => ∃ s0_2 s1_2 s2_2 s3_2 s4_2 s5_2 s6_2 s7_2 f', a' = mk n f' ∧ Y s0_2 s1_2 s2_2 s3_2 s4_2 s5_2 s6_2 s7_2 ∧ I s0_2 s1_2 s2_2 s3_2 s4_2 s5_2 s6_2 s7_2 f' w') Q) (mk n f) w) : (Code.loop c).wp P Q (mk n f) w := by
  intro b k cs
  have key := hL (fun s0_1 s1_1 s2_1 s3_1 s4_1 s5_1 s6_1 s7_1 => ∀ f w, I s0_1 s1_1 s2_1 s3_1 s4_1 s5_1 s6_1 s7_1 f w → ∃ e a' w', Q e a' w' ∧ Arrives P (lone (b.at (mk n f) (.code c :: .inLoop c :: k)) cs w) b k cs e a' w') (by
    intro s0_1 s1_1 s2_1 s3_1 s4_1 s5_1 s6_1 s7_1 Y hY hb f w hI
    obtain ⟨e, a₁, w₁, hq, harr⟩ := round s0_1 s1_1 s2_1 s3_1 s4_1 s5_1 s6_1 s7_1 Y hb f w hI b (.inLoop c :: k) cs
    cases e with
    | normal =>
      obtain ⟨s0_2, s1_2, s2_2, s3_2, s4_2, s5_2, s6_2, s7_2, f', rfl, hy, hI₁⟩ := hq
      obtain ⟨e₂, a₂, w₂, hq₂, harr₂⟩ := hY s0_2 s1_2 s2_2 s3_2 s4_2 s5_2 s6_2 s7_2 hy f' w₁ hI₁
      exact ⟨e₂, a₂, w₂, hq₂, .of_steps (Steps.trans harr (.one step_inLoop)) harr₂⟩
    | exit id => exact ⟨_, a₁, w₁, hq, .pass (x := .inLoop c) rfl (fun _ _ => .inl (by simp)) harr⟩
    | goto l => exact ⟨_, a₁, w₁, hq, .pass (x := .inLoop c) rfl (fun _ _ => .inl (by simp)) harr⟩
    | ret => exact ⟨_, a₁, w₁, hq, .pass (x := .inLoop c) rfl (fun _ _ => .inl (by simp)) harr⟩
    | panic ch => exact ⟨_, a₁, w₁, hq, .pass (x := .inLoop c) rfl (fun _ _ => .inl (by simp)) harr⟩
    | outgrown => exact ⟨_, a₁, w₁, hq, .pass (x := .inLoop c) rfl (fun _ _ => .inl (by simp)) harr⟩)
  obtain ⟨e, a', w', hq, harr⟩ := key f w h0
  exact ⟨e, a', w', hq, .of_steps (.one step_loop) harr⟩
theorem lp_loop9 {T0 T1 T2 T3 T4 T5 T6 T7 T8 : Type} {c : Code} (I : T0 → T1 → T2 → T3 → T4 → T5 → T6 → T7 → T8 → Fr → World → Prop) {body : T0 → T1 → T2 → T3 → T4 → T5 → T6 → T7 → T8 → (T0 → T1 → T2 → T3 → T4 → T5 → T6 → T7 → T8 → Prop) → Prop} {s0_0 s1_0 s2_0 s3_0 s4_0 s5_0 s6_0 s7_0 s8_0} (hL : Lp9 body s0_0 s1_0 s2_0 s3_0 s4_0 s5_0 s6_0 s7_0 s8_0) (h0 : I s0_0 s1_0 s2_0 s3_0 s4_0 s5_0 s6_0 s7_0 s8_0 f w)
    (round : ∀ s0_1 s1_1 s2_1 s3_1 s4_1 s5_1 s6_1 s7_1 s8_1 Y, body s0_1 s1_1 s2_1 s3_1 s4_1 s5_1 s6_1 s7_1 s8_1 Y → ∀ f w, I s0_1 s1_1 s2_1 s3_1 s4_1 s5_1 s6_1 s7_1 s8_1 f w → c.wp P (Exit.then (fun a' w' => ∃ s0_2 s1_2 s2_2 s3_2 s4_2 s5_2 s6_2 s7_2 s8_2 f', a' = mk n f' ∧ Y s0_2 s1_2 s2_2 s3_2 s4_2 s5_2 s6_2 s7_2 s8_2 ∧ I s0_2 s1_2 s2_2 s3_2 s4_2 s5_2 s6_2 s7_2 s8_2 f' w') Q) (mk n f) w) : (Code.loop c).wp P Q (mk n f) w := by
  intro b k cs
  have key := hL (fun s0_1 s1_1 s2_1 s3_1 s4_1 s5_1 s6_1 s7_1 s8_1 => ∀ f w, I s0_1 s1_1 s2_1 s3_1 s4_1 s5_1 s6_1 s7_1 s8_1 f w → ∃ e a' w', Q e a' w' ∧ Arrives P (lone (b.at (mk n f) (.code c :: .inLoop c :: k)) cs w) b k cs e a' w') (by
    intro s0_1 s1_1 s2_1 s3_1 s4_1 s5_1 s6_1 s7_1 s8_1 Y hY hb f w hI
    obtain ⟨e, a₁, w₁, hq, harr⟩ := round s0_1 s1_1 s2_1 s3_1 s4_1 s5_1 s6_1 s7_1 s8_1 Y hb f w hI b (.inLoop c :: k) cs
    cases e with
    | normal =>
      obtain ⟨s0_2, s1_2, s2_2, s3_2, s4_2, s5_2, s6_2, s7_2, s8_2, f', rfl, hy, hI₁⟩ := hq
      obtain ⟨e₂, a₂, w₂, hq₂, harr₂⟩ := hY s0_2 s1_2 s2_2 s3_2 s4_2 s5_2 s6_2 s7_2 s8_2 hy f' w₁ hI₁
      exact ⟨e₂, a₂, w₂, hq₂, .of_steps (Steps.trans harr (.one step_inLoop)) harr₂⟩
    | exit id => exact ⟨_, a₁, w₁, hq, .pass (x := .inLoop c) rfl (fun _ _ => .inl (by simp)) harr⟩
    | goto l => exact ⟨_, a₁, w₁, hq, .pass (x := .inLoop c) rfl (fun _ _ => .inl (by simp)) harr⟩
    | ret => exact ⟨_, a₁, w₁, hq, .pass (x := .inLoop c) rfl (fun _ _ => .inl (by simp)) harr⟩
    | panic ch => exact ⟨_, a₁, w₁, hq, .pass (x := .inLoop c) rfl (fun _ _ => .inl (by simp)) harr⟩
    | outgrown => exact ⟨_, a₁, w₁, hq, .pass (x := .inLoop c) rfl (fun _ _ => .inl (by simp)) harr⟩)
  obtain ⟨e, a', w', hq, harr⟩ := key f w h0
  exact ⟨e, a', w', hq, .of_steps (.one step_loop) harr⟩
theorem lp_loop10 {T0 T1 T2 T3 T4 T5 T6 T7 T8 T9 : Type} {c : Code} (I : T0 → T1 → T2 → T3 → T4 → T5 → T6 → T7 → T8 → T9 → Fr → World → Prop) {body : T0 → T1 → T2 → T3 → T4 → T5 → T6 → T7 → T8 → T9 → (T0 → T1 → T2 → T3 → T4 → T5 → T6 → T7 → T8 → T9 → Prop) → Prop} {s0_0 s1_0 s2_0 s3_0 s4_0 s5_0 s6_0 s7_0 s8_0 s9_0} (hL : Lp10 body s0_0 s1_0 s2_0 s3_0 s4_0 s5_0 s6_0 s7_0 s8_0 s9_0) (h0 : I s0_0 s1_0 s2_0 s3_0 s4_0 s5_0 s6_0 s7_0 s8_0 s9_0 f w)
    (round : ∀ s0_1 s1_1 s2_1 s3_1 s4_1 s5_1 s6_1 s7_1 s8_1 s9_1 Y, body s0_1 s1_1 s2_1 s3_1 s4_1 s5_1 s6_1 s7_1 s8_1 s9_1 Y → ∀ f w, I s0_1 s1_1 s2_1 s3_1 s4_1 s5_1 s6_1 s7_1 s8_1 s9_1 f w → c.wp P (Exit.then (fun a' w' => ∃ s0_2 s1_2 s2_2 s3_2 s4_2 s5_2 s6_2 s7_2 s8_2 s9_2 f', a' = mk n f' ∧ Y s0_2 s1_2 s2_2 s3_2 s4_2 s5_2 s6_2 s7_2 s8_2 s9_2 ∧ I s0_2 s1_2 s2_2 s3_2 s4_2 s5_2 s6_2 s7_2 s8_2 s9_2 f' w') Q) (mk n f) w) : (Code.loop c).wp P Q (mk n f) w := by
  intro b k cs
  have key := hL (fun s0_1 s1_1 s2_1 s3_1 s4_1 s5_1 s6_1 s7_1 s8_1 s9_1 => ∀ f w, I s0_1 s1_1 s2_1 s3_1 s4_1 s5_1 s6_1 s7_1 s8_1 s9_1 f w → ∃ e a' w', Q e a' w' ∧ Arrives P (lone (b.at (mk n f) (.code c :: .inLoop c :: k)) cs w) b k cs e a' w') (by
    intro s0_1 s1_1 s2_1 s3_1 s4_1 s5_1 s6_1 s7_1 s8_1 s9_1 Y hY hb f w hI
    obtain ⟨e, a₁, w₁, hq, harr⟩ := round s0_1 s1_1 s2_1 s3_1 s4_1 s5_1 s6_1 s7_1 s8_1 s9_1 Y hb f w hI b (.inLoop c :: k) cs
    cases e with
    | normal =>
      obtain ⟨s0_2, s1_2, s2_2, s3_2, s4_2, s5_2, s6_2, s7_2, s8_2, s9_2, f', rfl, hy, hI₁⟩ := hq
      obtain ⟨e₂, a₂, w₂, hq₂, harr₂⟩ := hY s0_2 s1_2 s2_2 s3_2 s4_2 s5_2 s6_2 s7_2 s8_2 s9_2 hy f' w₁ hI₁
      exact ⟨e₂, a₂, w₂, hq₂, .of_steps (Steps.trans harr (.one step_inLoop)) harr₂⟩
    | exit id => exact ⟨_, a₁, w₁, hq, .pass (x := .inLoop c) rfl (fun _ _ => .inl (by simp)) harr⟩
    | goto l => exact ⟨_, a₁, w₁, hq, .pass (x := .inLoop c) rfl (fun _ _ => .inl (by simp)) harr⟩
    | ret => exact ⟨_, a₁, w₁, hq, .pass (x := .inLoop c) rfl (fun _ _ => .inl (by simp)) harr⟩
    | panic ch => exact ⟨_, a₁, w₁, hq, .pass (x := .inLoop c) rfl (fun _ _ => .inl (by simp)) harr⟩
    | outgrown => exact ⟨_, a₁, w₁, hq, .pass (x := .inLoop c) rfl (fun _ _ => .inl (by simp)) harr⟩)
  obtain ⟨e, a', w', hq, harr⟩ := key f w h0
  exact ⟨e, a', w', hq, .of_steps (.one step_loop) harr⟩
theorem lp_loop11 {T0 T1 T2 T3 T4 T5 T6 T7 T8 T9 T10 : Type} {c : Code} (I : T0 → T1 → T2 → T3 → T4 → T5 → T6 → T7 → T8 → T9 → T10 → Fr → World → Prop) {body : T0 → T1 → T2 → T3 → T4 → T5 → T6 → T7 → T8 → T9 → T10 → (T0 → T1 → T2 → T3 → T4 → T5 → T6 → T7 → T8 → T9 → T10 → Prop) → Prop} {s0_0 s1_0 s2_0 s3_0 s4_0 s5_0 s6_0 s7_0 s8_0 s9_0 s10_0} (hL : Lp11 body s0_0 s1_0 s2_0 s3_0 s4_0 s5_0 s6_0 s7_0 s8_0 s9_0 s10_0) (h0 : I s0_0 s1_0 s2_0 s3_0 s4_0 s5_0 s6_0 s7_0 s8_0 s9_0 s10_0 f w)
    (round : ∀ s0_1 s1_1 s2_1 s3_1 s4_1 s5_1 s6_1 s7_1 s8_1 s9_1 s10_1 Y, body s0_1 s1_1 s2_1 s3_1 s4_1 s5_1 s6_1 s7_1 s8_1 s9_1 s10_1 Y → ∀ f w, I s0_1 s1_1 s2_1 s3_1 s4_1 s5_1 s6_1 s7_1 s8_1 s9_1 s10_1 f w → c.wp P (Exit.then (fun a' w' => ∃ s0_2 s1_2 s2_2 s3_2 s4_2 s5_2 s6_2 s7_2 s8_2 s9_2 s10_2 f', a' = mk n f' ∧ Y s0_2 s1_2 s2_2 s3_2 s4_2 s5_2 s6_2 s7_2 s8_2 s9_2 s10_2 ∧ I s0_2 s1_2 s2_2 s3_2 s4_2 s5_2 s6_2 s7_2 s8_2 s9_2 s10_2 f' w') Q) (mk n f) w) : (Code.loop c).wp P Q (mk n f) w := by
  intro b k cs
  have key := hL (fun s0_1 s1_1 s2_1 s3_1 s4_1 s5_1 s6_1 s7_1 s8_1 s9_1 s10_1 => ∀ f w, I s0_1 s1_1 s2_1 s3_1 s4_1 s5_1 s6_1 s7_1 s8_1 s9_1 s10_1 f w → ∃ e a' w', Q e a' w' ∧ Arrives P (lone (b.at (mk n f) (.code c :: .inLoop c :: k)) cs w) b k cs e a' w') (by
    intro s0_1 s1_1 s2_1 s3_1 s4_1 s5_1 s6_1 s7_1 s8_1 s9_1 s10_1 Y hY hb f w hI
    obtain ⟨e, a₁, w₁, hq, harr⟩ := round s0_1 s1_1 s2_1 s3_1 s4_1 s5_1 s6_1 s7_1 s8_1 s9_1 s10_1 Y hb f w hI b (.inLoop c :: k) cs
    cases e with
    | normal =>
      obtain ⟨s0_2, s1_2, s2_2, s3_2, s4_2, s5_2, s6_2, s7_2, s8_2, s9_2, s10_2, f', rfl, hy, hI₁⟩ := hq
      obtain ⟨e₂, a₂, w₂, hq₂, harr₂⟩ := hY s0_2 s1_2 s2_2 s3_2 s4_2 s5_2 s6_2 s7_2 s8_2 s9_2 s10_2 hy f' w₁ hI₁
      exact ⟨e₂, a₂, w₂, hq₂, .of_steps (Steps.trans harr (.one step_inLoop)) harr₂⟩
    | exit id => exact ⟨_, a₁, w₁, hq, .pass (x := .inLoop c) rfl (fun _ _ => .inl (by simp)) harr⟩
    | goto l => exact ⟨_, a₁, w₁, hq, .pass (x := .inLoop c) rfl (fun _ _ => .inl (by simp)) harr⟩
    | ret => exact ⟨_, a₁, w₁, hq, .pass (x := .inLoop c) rfl (fun _ _ => .inl (by simp)) harr⟩
    | panic ch => exact ⟨_, a₁, w₁, hq, .pass (x := .inLoop c) rfl (fun _ _ => .inl (by simp)) harr⟩
    | outgrown => exact ⟨_, a₁, w₁, hq, .pass (x := .inLoop c) rfl (fun _ _ => .inl (by simp)) harr⟩)
  obtain ⟨e, a', w', hq, harr⟩ := key f w h0
  exact ⟨e, a', w', hq, .of_steps (.one step_loop) harr⟩
theorem lp_loop12 {T0 T1 T2 T3 T4 T5 T6 T7 T8 T9 T10 T11 : Type} {c : Code} (I : T0 → T1 → T2 → T3 → T4 → T5 → T6 → T7 → T8 → T9 → T10 → T11 → Fr → World → Prop) {body : T0 → T1 → T2 → T3 → T4 → T5 → T6 → T7 → T8 → T9 → T10 → T11 → (T0 → T1 → T2 → T3 → T4 → T5 → T6 → T7 → T8 → T9 → T10 → T11 → Prop) → Prop} {s0_0 s1_0 s2_0 s3_0 s4_0 s5_0 s6_0 s7_0 s8_0 s9_0 s10_0 s11_0} (hL : Lp12 body s0_0 s1_0 s2_0 s3_0 s4_0 s5_0 s6_0 s7_0 s8_0 s9_0 s10_0 s11_0) (h0 : I s0_0 s1_0 s2_0 s3_0 s4_0 s5_0 s6_0 s7_0 s8_0 s9_0 s10_0 s11_0 f w)
    (round : ∀ s0_1 s1_1 s2_1 s3_1 s4_1 s5_1 s6_1 s7_1 s8_1 s9_1 s10_1 s11_1 Y, body s0_1 s1_1 s2_1 s3_1 s4_1 s5_1 s6_1 s7_1 s8_1 s9_1 s10_1 s11_1 Y → ∀ f w, I s0_1 s1_1 s2_1 s3_1 s4_1 s5_1 s6_1 s7_1 s8_1 s9_1 s10_1 s11_1 f w → c.wp P (Exit.then (fun a' w' => ∃ s0_2 s1_2 s2_2 s3_2 s4_2 s5_2 s6_2 s7_2 s8_2 s9_2 s10_2 s11_2 f', a' = mk n f' ∧ Y s0_2 s1_2 s2_2 s3_2 s4_2 s5_2 s6_2 s7_2 s8_2 s9_2 s10_2 s11_2 ∧ I s0_2 s1_2 s2_2 s3_2 s4_2 s5_2 s6_2 s7_2 s8_2 s9_2 s10_2 s11_2 f' w') Q) (mk n f) w) : (Code.loop c).wp P Q (mk n f) w := by
  intro b k cs
  have key := hL (fun s0_1 s1_1 s2_1 s3_1 s4_1 s5_1 s6_1 s7_1 s8_1 s9_1 s10_1 s11_1 => ∀ f w, I s0_1 s1_1 s2_1 s3_1 s4_1 s5_1 s6_1 s7_1 s8_1 s9_1 s10_1 s11_1 f w → ∃ e a' w', Q e a' w' ∧ Arrives P (lone (b.at (mk n f) (.code c :: .inLoop c :: k)) cs w) b k cs e a' w') (by
    intro s0_1 s1_1 s2_1 s3_1 s4_1 s5_1 s6_1 s7_1 s8_1 s9_1 s10_1 s11_1 Y hY hb f w hI
    obtain ⟨e, a₁, w₁, hq, harr⟩ := round s0_1 s1_1 s2_1 s3_1 s4_1 s5_1 s6_1 s7_1 s8_1 s9_1 s10_1 s11_1 Y hb f w hI b (.inLoop c :: k) cs
    cases e with
    | normal =>
      obtain ⟨s0_2, s1_2, s2_2, s3_2, s4_2, s5_2, s6_2, s7_2, s8_2, s9_2, s10_2, s11_2, f', rfl, hy, hI₁⟩ := hq
      obtain ⟨e₂, a₂, w₂, hq₂, harr₂⟩ := hY s0_2 s1_2 s2_2 s3_2 s4_2 s5_2 s6_2 s7_2 s8_2 s9_2 s10_2 s11_2 hy f' w₁ hI₁
      exact ⟨e₂, a₂, w₂, hq₂, .of_steps (Steps.trans harr (.one step_inLoop)) harr₂⟩
    | exit id => exact ⟨_, a₁, w₁, hq, .pass (x := .inLoop c) rfl (fun _ _ => .inl (by simp)) harr⟩
    | goto l => exact ⟨_, a₁, w₁, hq, .pass (x := .inLoop c) rfl (fun _ _ => .inl (by simp)) harr⟩
    | ret => exact ⟨_, a₁, w₁, hq, .pass (x := .inLoop c) rfl (fun _ _ => .inl (by simp)) harr⟩
    | panic ch => exact ⟨_, a₁, w₁, hq, .pass (x := .inLoop c) rfl (fun _ _ => .inl (by simp)) harr⟩
    | outgrown => exact ⟨_, a₁, w₁, hq, .pass (x := .inLoop c) rfl (fun _ _ => .inl (by simp)) harr⟩)
  obtain ⟨e, a', w', hq, harr⟩ := key f w h0
  exact ⟨e, a', w', hq, .of_steps (.one step_loop) harr⟩
variable {σ τ : Hv} {c : Cx} {ms ms' : List HObj}
/-- An element of a slice that reads. -/
theorem RSl.at {α : Type} {size : Nat} {R : Hv → List Value → α → Prop} {a : Option Addr} {len cap : Nat} {l : List α} (h : RSl size R σ (.slice a len cap) l) {k : Nat} {x : α} (hx : l[k]? = some x) :
    ∃ ad cs, a = some ad ∧ cs.length = size ∧ VRow σ (ad.add (k * size)) cs ∧ R σ cs x ∧ k < len := by
  obtain ⟨a', cap', h1, _, _, h4⟩ := h
  cases h1
  obtain ⟨ad, cs, e1, e2, e3, e4⟩ := h4 k x hx
  exact ⟨ad, cs, e1, e2, e3, e4, lt_of_getq hx⟩
theorem RSl.capLen {α : Type} {size : Nat} {R : Hv → List Value → α → Prop} {a : Option Addr} {len cap : Nat} {l : List α} (h : RSl size R σ (.slice a len cap) l) : len = l.length ∧ len ≤ cap := by
  obtain ⟨a', cap', h1, h2, _, _⟩ := h
  cases h1
  exact ⟨rfl, h2⟩
/-- The length of what is read. -/
theorem RSl.len63 {α : Type} {size : Nat} {R : Hv → List Value → α → Prop} {v : Value} {l : List α} (h : RSl size R σ v l) : l.length ≤ 9223372036854775807 := by have := h.len; omega
/-- An object moved to the front. -/
theorem St.front {w : World} (h : St c w σ ms) (i : Nat) {o : HObj} (hi : ms[i]? = some o) (hms : o :: ms.eraseIdx i = ms') : St c w σ ms' := by
  subst hms
  have hin := List.mem_of_getElem? hi
  refine ⟨h.keeps, h.view, h.sub, h.fresh, ?_, ?_, ?_, ?_⟩
  · intro p hp
    rcases List.mem_cons.1 hp with rfl | hp
    · exact h.own p hin
    · exact h.own p (List.mem_of_mem_eraseIdx hp)
  · refine List.pairwise_cons.2 ⟨fun p hp k hok => ?_, h.sep.sublist (List.eraseIdx_sublist _ _)⟩
    obtain ⟨j, hj, hp'⟩ := List.mem_eraseIdx_iff_getElem?.1 hp
    exact h.apart hi hp' hj k hok
  · intro p hp
    rcases List.mem_cons.1 hp with rfl | hp
    · exact h.off p hin
    · exact h.off p (List.mem_of_mem_eraseIdx hp)
  · intro p hp
    rcases List.mem_cons.1 hp with rfl | hp
    · exact h.new p hin
    · exact h.new p (List.mem_of_mem_eraseIdx hp)
/-- Only the first objects are kept. -/
theorem St.keep {w : World} (h : St c w σ ms) (k : Nat) (hms : ms.take k = ms') : St c w σ ms' := h.sublist (hms ▸ List.take_sublist _ _)
theorem St.re {w : World} (h : St c w σ ms) (hms : ms = ms') : St c w σ ms' := hms ▸ h
theorem getD_enc {α : Type} (enc : α → Value) (o : Option α) {y : α} {z : Value} (hz : enc y = z) : (o.map enc).getD z = enc (o.getD y) := by cases o <;> simp [hz]
/-- Ways meet behind two pieces. -/
theorem cut3 {x y z : Code} (M : Fr → World → Prop) (h : x.wp P (Exit.then (fun a w => y.wp P (Exit.then (fun a w => ∃ f, a = mk n f ∧ M f w) Q) a w) Q) (mk n f) w)
    (hz : ∀ f w, M f w → z.wp P Q (mk n f) w) : (Code.seq x (Code.seq y z)).wp P Q (mk n f) w := by
  refine wp_seq (Code.wp_mono ?_ h)
  intro e a w hq
  cases e with
  | normal =>
    refine wp_seq (Code.wp_mono ?_ hq)
    intro e a w hq
    cases e with
    | normal => obtain ⟨f', rfl, hM⟩ := hq; exact hz _ _ hM
    | _ => exact hq
  | _ => exact hq
theorem sml_bytes {k bytes : Nat} (h : Sml k) (hb : bytes ≤ 32768) : k * bytes ≤ 140737488355328 ∧ k ≤ maxLen := by
  unfold Sml at h
  refine ⟨Nat.le_trans (Nat.mul_le_mul h hb) (by omega), by unfold maxLen; omega⟩
section
variable {ops : Array Oper} {rest : List Oper} {d : Nat} {t : TypeId} {p : String} {af : Array Edge}
theorem o_app {st e : TypeId} {x y : Operand} {i : TypeInfo} {z : Value} {size bytes : Nat} (hu : P.underlying st = some (.slice e)) (hi : P.info? e = some i) (hz : i.zero = some z)
    (hsz : i.size = size) (hby : i.bytes = bytes) (hzs : z.cells.size = size) (hpos : 0 < size) {v : Value} {k k' q : Nat} {xs xs' : List Value} (hS : St c w σ ms) (hx : ev n f x = v) (hq : ms[q]? = some (vec v e size k xs))
    {a : Addr} {m cc : Nat} {news : List Value} (hy : ev n f y = .slice (some a) m cc) (hl : news.length = m * size) (hnews : Row w a news) (h1 : ∀ u ∈ news, u.oneCell' = true) (hsm : Sml k') (hbb : bytes ≤ 32768) (hk : k + m = k')
    (hxs : xs ++ news = xs') {Ms : Value → List HObj} (hms : ∀ v', ms.set q (vec v' e size k' xs') = Ms v')
    (h : ∀ v' w', v'.oneCell' = true → St c w' σ (Ms v') → wpList P ops Q rest (mk n (upd f d v')) w') :
    wpList P ops Q (⟨some d, .call ⟨.builtin .append, #[x, y], #[st, st]⟩, t, p, af, none⟩ :: rest) (mk n f) w := by
  subst hk
  exact o_append hu hi hz hsz hby hzs hpos hS hx hq hy hl hnews h1 (sml_bytes hsm hbb).1 (sml_bytes hsm hbb).2 hxs hms h
theorem o_appR {α : Type} {enc : α → List Value} {st e : TypeId} {x y : Operand} {i : TypeInfo} {z : Value} {size bytes : Nat} (hu : P.underlying st = some (.slice e)) (hi : P.info? e = some i) (hz : i.zero = some z)
    (hsz : i.size = size) (hby : i.bytes = bytes) (hzs : z.cells.size = size) (hpos : 0 < size) {v yv : Value} {k k' q : Nat} {xs xs' : List Value} {l : List α} {σ1 : Hv} (hS : St c w σ ms) (hx : ev n f x = v) (hq : ms[q]? = some (vec v e size k xs))
    (hy : ev n f y = yv) (hr : RSl size (REnc enc) σ1 yv l) (hV : View σ1 w) (he : ∀ x, (enc x).length = size) (h1 : ∀ x, ∀ u ∈ enc x, u.oneCell' = true) (hsm : Sml k') (hbb : bytes ≤ 32768) (hk : k + l.length = k')
    (hxs : xs ++ l.flatMap enc = xs') {Ms : Value → List HObj} (hms : ∀ v', ms.set q (vec v' e size k' xs') = Ms v')
    (h : ∀ v' w', v'.oneCell' = true → St c w' σ (Ms v') → wpList P ops Q rest (mk n (upd f d v')) w') :
    wpList P ops Q (⟨some d, .call ⟨.builtin .append, #[x, y], #[st, st]⟩, t, p, af, none⟩ :: rest) (mk n f) w := by
  subst hk
  exact o_append_rd hu hi hz hsz hby hzs hpos hS hx hq hy hr hV he h1 (sml_bytes hsm hbb).1 (sml_bytes hsm hbb).2 hxs hms h
/-- What an owned slice holds is appended to another one. -/
theorem o_appV {α : Type} {enc : α → List Value} {st e : TypeId} {x y : Operand} {i : TypeInfo} {z : Value} {size bytes : Nat} (hu : P.underlying st = some (.slice e)) (hi : P.info? e = some i) (hz : i.zero = some z)
    (hsz : i.size = size) (hby : i.bytes = bytes) (hzs : z.cells.size = size) (hpos : 0 < size) {v yv : Value} {k k' q qy : Nat} {xs xs' : List Value} {l : List α} (hS : St c w σ ms) (hx : ev n f x = v) (hq : ms[q]? = some (vec v e size k xs))
    (hy : ev n f y = yv) (hqy : ms[qy]? = some (vec yv e size l.length (l.flatMap enc))) (he : ∀ x, (enc x).length = size) (h1 : ∀ x, ∀ u ∈ enc x, u.oneCell' = true) (hsm : Sml k') (hbb : bytes ≤ 32768) (hk : k + l.length = k')
    (hxs : xs ++ l.flatMap enc = xs') {Ms : Value → List HObj} (hms : ∀ v', ms.set q (vec v' e size k' xs') = Ms v')
    (h : ∀ v' w', v'.oneCell' = true → St c w' σ (Ms v') → wpList P ops Q rest (mk n (upd f d v')) w') :
    wpList P ops Q (⟨some d, .call ⟨.builtin .append, #[x, y], #[st, st]⟩, t, p, af, none⟩ :: rest) (mk n f) w := by
  rcases (vec_shape (hS.get hqy)).2 with ⟨rfl, h0⟩ | ⟨g, cap, rfl, _⟩
  · have hl : l = [] := List.eq_nil_of_length_eq_zero h0
    subst hl
    exact o_appR hu hi hz hsz hby hzs hpos hS hx hq hy (RSl.nil (R := REnc enc) (σ := σ)) hS.view he h1 hsm hbb hk hxs hms h
  · exact o_app hu hi hz hsz hby hzs hpos hS hx hq hy (flat_len he l) (vec_row (hS.get hqy)) (fun u hu => by
      obtain ⟨x, _, hx⟩ := List.mem_flatMap.1 hu
      exact h1 x u hx) hsm hbb hk hxs hms h
end
/-- A temporary look at an owned slice. -/
theorem St.peek {α : Type} {enc : α → List Value} {size T : Nat} {w : World} {v : Value} {l : List α} (h : St c w σ ms) {i : Nat} (hi : ms[i]? = some (vec v T size l.length (l.flatMap enc))) (he : ∀ x, (enc x).length = size) (hl : Sml l.length) :
    ∃ σ1, St c w σ1 (ms.eraseIdx i) ∧ Sub σ σ1 ∧ RSl size (REnc enc) σ1 v l := by
  obtain ⟨σ1, h1, h2, h3⟩ := h.freeze' hi rfl
  exact ⟨σ1, h1, h2, RSl.ofVecEnc he (h.get hi) h3 rfl (by unfold Sml at hl; omega)⟩
def encI (x : Int) : List Value := [.int .i64 x]
theorem encI_len (x : Int) : (encI x).length = 1 := rfl
theorem encI_one (x : Int) : ∀ u ∈ encI x, u.oneCell' = true := by intro u hu; simp [encI] at hu; subst hu; rfl
def encB (x : Bool) : List Value := [.bool x]
theorem encB_len (x : Bool) : (encB x).length = 1 := rfl
theorem encB_one (x : Bool) : ∀ u ∈ encB x, u.oneCell' = true := by intro u hu; simp [encB] at hu; subst hu; rfl
theorem Grow.back1 {w1 : World} {b : Nat} {σ1 σ2 : Hv} (g : Grow [b] σ1 w σ2 w1) (hs : Sub σ σ1) : Grow [b] σ w σ w1 :=
  ⟨g.keeps, fun b o hb => g.view b o (g.sub b o (hs b o hb)), .refl _, fun _ _ _ => rfl⟩
theorem vec_posv {w : World} {v : Value} {T size k : Nat} {xs : List Value} (h : (vec v T size k xs).ok w) {i : Nat} (hi : i < k) : ∃ g cap, v = .slice (some ⟨g, 0, none⟩) k cap := vec_pos h (by omega)
theorem vec_cellv {α : Type} {enc : α → List Value} {size g cap T k : Nat} {w : World} (he : ∀ x, (enc x).length = size) {v0 : Value} (hv : v0 = .slice (some ⟨g, 0, none⟩) k cap) {l : List α} {i j : Nat} {x : α} {v : Value} (h : (vec v0 T size k (l.flatMap enc)).ok w) (hx : l[i]? = some x) (hj : (enc x)[j]? = some v) :
    w.cell? ⟨g, i * size + j, none⟩ = some v := by subst hv; exact vec_cell he h hx hj
theorem vec_partv {α : Type} {enc : α → List Value} {size g cap T k : Nat} {w : World} (he : ∀ x, (enc x).length = size) {v0 : Value} (hv : v0 = .slice (some ⟨g, 0, none⟩) k cap) {l : List α} {i : Nat} {x : α} (h : (vec v0 T size k (l.flatMap enc)).ok w) (hx : l[i]? = some x) :
    Row w ⟨g, i * size, none⟩ (enc x) := by subst hv; exact vec_part he h hx
theorem sc_n {a : Act} (h : Q .normal a w) : Exit.noGoto Q .normal a w := h
theorem sc_r {a : Act} (h : Q .ret a w) : Exit.noGoto Q .ret a w := h
theorem sc_e {a : Act} {i : Nat} (h : Q (.exit i) a w) : Exit.noGoto Q (.exit i) a w := h
theorem St.own0 {w0 w : World} {σ0 : Hv} {o : HObj} (h : St ⟨w0, σ0, []⟩ w σ ms) {i : Nat} (hi : ms[i]? = some o) : o.ok w ∧ ∀ k, o.foot = some k → w0.heap.size ≤ k ∧ σ0 k = none := by
  obtain ⟨h1, h2⟩ := h.own1 hi
  refine ⟨h1, fun k hk => ⟨(h2 k hk).1, ?_⟩⟩
  rcases hq : σ0 k with _ | x
  · rfl
  · have := h.sub k x hq
    rw [(h2 k hk).2] at this; cases this
theorem fresh_back {w1 : World} {o : HObj} {m : Nat} (h : o.ok w1 ∧ ∀ k, o.foot = some k → m ≤ k ∧ τ k = none) (hs : Sub σ τ) : o.ok w1 ∧ ∀ k, o.foot = some k → m ≤ k ∧ σ k = none := by
  refine ⟨h.1, fun k hk => ⟨(h.2 k hk).1, ?_⟩⟩
  rcases hq : σ k with _ | x
  · rfl
  · have := hs k x hq
    rw [(h.2 k hk).2] at this; cases this
theorem o_neqb {ops : Array Oper} {rest : List Oper} {d : Nat} {t : TypeId} {p : String} {af : Array Edge} {xt yt : TypeId} {x y : Operand} {a b r : Bool} (hu : P.underlying xt = some .bool) (hx : ev n f x = .bool a) (hy : ev n f y = .bool b) (hr : (!(a == b)) = r)
    (h : wpList P ops Q rest (mk n (upd f d (.bool r))) w) : wpList P ops Q (⟨some d, .binOp .neq xt x y yt, t, p, af, none⟩ :: rest) (mk n f) w :=
  o_val rfl rfl (by subst hr; simp [execOp, hx, hy, eqGuard, run_neq_bool _ _ _ _ hu]) h
section
variable {ops : Array Oper} {rest : List Oper} {d : Nat} {t : TypeId} {p : String} {af : Array Edge}
/-- An operation whose guard was passed over is passed over. -/
theorem o_offu {op : Op} {j dj : Nat} {b : Bool} (hj : (ops[j]?).bind (·.dst) = some dj) (hv : ev n f (.tmp dj) = undef)
    (h : wpList P ops Q rest (mk n (upd f d undef)) w) : wpList P ops Q (⟨some d, op, t, p, af, some (j, b)⟩ :: rest) (mk n f) w := by
  have hw : Region.wanted ⟨some d, op, t, p, af, some (j, b)⟩ (yielded ops (mk n f).tmps) = false := by
    have h2 : (mk n f).tmps.getD dj undef = undef := res_ev hv
    have h3 : (mk n f).tmps[dj]? = some undef ∨ (mk n f).tmps[dj]? = none := by
      rw [Array.getD_eq_getD_getElem?] at h2
      cases hx : (mk n f).tmps[dj]? with
      | none => right; rfl
      | some x => rw [hx] at h2; left; exact congrArg some h2
    rcases h3 with h3 | h3 <;> simp [Region.wanted, yielded, hj, h3, undef]
  unfold wpList
  rw [if_neg (by rw [hw]; simp)]
  rw [put_mk]
  exact h
theorem o_offun {op : Op} {j dj : Nat} {b : Bool} (hj : (ops[j]?).bind (·.dst) = some dj) (hv : ev n f (.tmp dj) = undef)
    (h : wpList P ops Q rest (mk n f) w) : wpList P ops Q (⟨none, op, t, p, af, some (j, b)⟩ :: rest) (mk n f) w := by
  have hw : Region.wanted ⟨none, op, t, p, af, some (j, b)⟩ (yielded ops (mk n f).tmps) = false := by
    have h2 : (mk n f).tmps.getD dj undef = undef := res_ev hv
    have h3 : (mk n f).tmps[dj]? = some undef ∨ (mk n f).tmps[dj]? = none := by
      rw [Array.getD_eq_getD_getElem?] at h2
      cases hx : (mk n f).tmps[dj]? with
      | none => right; rfl
      | some x => rw [hx] at h2; left; exact congrArg some h2
    rcases h3 with h3 | h3 <;> simp [Region.wanted, yielded, hj, h3, undef]
  unfold wpList
  rw [if_neg (by rw [hw]; simp)]
  exact h
end
/-! Which operations of a region have been taken, as a number. -/
section
variable {ops : Array Oper} {md : Region.Mode}
def bt (m k : Nat) : Array Bool := Array.ofFn (n := m) fun i => k.testBit i.val
theorem bt_set (m k i : Nat) : (bt m k).setIfInBounds i true = bt m (k ||| 1 <<< i) := by
  apply Array.ext
  · simp [bt]
  · intro j h1 h2
    have hj : j < m := by simpa [bt] using h1
    simp only [bt, Array.getElem_ofFn]
    rw [Array.getElem_setIfInBounds (by simpa using hj)]
    simp only [Array.getElem_ofFn, Nat.testBit_or, Nat.one_shiftLeft, Nat.testBit_two_pow]
    by_cases hij : i = j
    · simp [hij]
    · simp [hij]
theorem bt_zero (m : Nat) : Array.replicate m false = bt m 0 := by
  apply Array.ext
  · simp [bt]
  · intro j h1 h2; simp [bt]
def chkT (md : Region.Mode) (ops : Array Oper) (m k i k' : Nat) : Bool :=
  Region.noSelect ops && Region.free md ops (bt m k) i && (Region.ready md ops (bt m k)).contains i && Nat.beq (k ||| 1 <<< i) k'
theorem dt {J : World → Prop} {m k fuel d : Nat} (i k' : Nat) {oi : Oper} {v : Value} (hc : chkT md ops m k i k' = true) (hi : ops[i]? = some oi) (hd : oi.dst = some d) (hQ : ∀ c a w, Q (.panic c) (a.put (some d) v) w → Q (.panic c) a w) (hJ : J w)
    (hy : ∀ w, J w → ∀ K : Act → World → Prop, K (mk n (upd f d v)) w → wpList P ops (nrm K) [oi] (mk n f) w)
    (h : wpJ P md ops Q J fuel (bt m k') (mk n (upd f d v)) w) : wpJ P md ops Q J (fuel + 1) (bt m k) (mk n f) w := by
  simp only [chkT, Bool.and_eq_true] at hc
  obtain ⟨⟨⟨h1, h2⟩, h3⟩, h4⟩ := hc
  exact d_take hi h1 h2 h3 (by rw [bt_set, Nat.eq_of_beq_eq_true h4]) hd hQ hJ hy h
def chk1 (md : Region.Mode) (ops : Array Oper) (m k i k' : Nat) : Bool := (match Region.ready md ops (bt m k) with | [j] => Nat.beq j i | _ => false) && Nat.beq (k ||| 1 <<< i) k'
theorem d1 {J : World → Prop} {m k fuel : Nat} (i k' : Nat) {oi : Oper} (hc : chk1 md ops m k i k' = true) (hi : ops[i]? = some oi)
    (h : wpList P ops (nrm fun a w => J w ∧ wpJ P md ops Q J fuel (bt m k') a w) [oi] (mk n f) w) : wpJ P md ops Q J (fuel + 1) (bt m k) (mk n f) w := by
  simp only [chk1, Bool.and_eq_true] at hc
  obtain ⟨h1, h4⟩ := hc
  refine d_one (i := i) ?_ hi (by rw [bt_set, Nat.eq_of_beq_eq_true h4]) h
  split at h1
  · rename_i j hj; rw [hj, Nat.eq_of_beq_eq_true h1]
  · cases h1
def chk2 (md : Region.Mode) (ops : Array Oper) (m k i j : Nat) : Bool := match Region.ready md ops (bt m k) with | [x, y] => Nat.beq x i && Nat.beq y j | _ => false
theorem d2 {J : World → Prop} {m k fuel : Nat} (i j ki kj : Nat) {oi oj : Oper} (hc : chk2 md ops m k i j = true) (hki : k ||| 1 <<< i = ki) (hkj : k ||| 1 <<< j = kj) (hi : ops[i]? = some oi) (hj : ops[j]? = some oj)
    (h : wpList P ops (nrm fun a w => J w ∧ wpJ P md ops Q J fuel (bt m ki) a w) [oi] (mk n f) w) (h' : wpList P ops (nrm fun a w => J w ∧ wpJ P md ops Q J fuel (bt m kj) a w) [oj] (mk n f) w) : wpJ P md ops Q J (fuel + 1) (bt m k) (mk n f) w := by
  refine d_two (i := i) (j := j) ?_ hi hj (by rw [bt_set, hki]) (by rw [bt_set, hkj]) h h'
  unfold chk2 at hc
  split at hc
  · rename_i x y hxy
    simp only [Bool.and_eq_true] at hc
    rw [hxy, Nat.eq_of_beq_eq_true hc.1, Nat.eq_of_beq_eq_true hc.2]
  · cases hc
theorem dr {id m : Nat} (J : World → Prop) (hm : P.follows .mixedOrders = true) (hs : ops.size = m)
    (h : wpJ P .any ops Q J m (bt m 0) (mk n f) w.drew) : (Code.region id ops true).wp P Q (mk n f) w := d_reg J hm hs (bt_zero m) h
theorem dz {J : World → Prop} {m k : Nat} {a : Act} (hr : (Region.ready md ops (bt m k)).isEmpty = true) (h : Q .normal a w) : wpJ P md ops Q J 0 (bt m k) a w := d_done (List.isEmpty_iff.1 hr) h
end

/-! slices.Delete at a list of the call's own. -/
open Go.Sort Go.Proofs in
theorem delete_vec {fid : FuncId} (c1 : ∀ (blk off cap i j : Nat) (zs : List (List UInt8)) (w : World), Holds encStr w blk off zs.toArray → zs.length ≤ cap → cap ≤ 9223372036854775807 → i ≤ j → j ≤ zs.length →
      Calls P fid #[.slice (some ⟨blk, off, none⟩) zs.length cap, .int .i64 i, .int .i64 j] w fun e w' => e = .returned (.slice (some ⟨blk, off, none⟩) (zs.length - (j - i)) cap) ∧ ∃ q, w' = putRow encStr (Sort.ahead w q) blk off (zs.take i ++ zs.drop j ++ List.replicate (j - i) []).toArray)
    {v : Value} {T : TypeId} {l : List ByteArray} {i j : Nat} {w : World} (hV : View σ w) (ho : (vec v T 1 l.length (l.flatMap encTx)).ok w) (hoff : ∀ b, v.ownBlock = some b → σ b = none) (hij : i ≤ j) (hj : j ≤ l.length) (hlt : i < j) :
    Calls P fid #[v, .int .i64 ((i : Nat) : Int), .int .i64 ((j : Nat) : Int)] w fun e w1 => ∃ v1, e = .returned v1 ∧ v1.ownBlock = v.ownBlock ∧ Grow v.ownBlock.toList σ w σ w1 ∧ (vec v1 T 1 (l.take i ++ l.drop j).length ((l.take i ++ l.drop j).flatMap encTx)).ok w1 := by
  have ho' : w.ownsRow 0 T 1 v l.length (l.flatMap encTx) := ho
  rcases ho'.2 with ⟨rfl, h0⟩ | ⟨g, cap, cur, rfl, hb0, hb, h1, h2, h3, h4⟩
  · omega
  · have h4' : cur.toList.take (l.map (·.data.toList)).length = (l.map (·.data.toList)).map encStr := by rw [List.length_map, ← flat_encTx]; simpa using h4
    have hc := c1 g 0 cap i j (l.map (·.data.toList)) w (holds_of_block hb h4') (by simpa using h1) (by unfold maxLen at h2; omega) hij (by simpa using hj)
    rw [List.length_map] at hc
    refine hc.mono ?_
    rintro e w1 ⟨rfl, q, rfl⟩
    refine ⟨_, rfl, rfl, grow_of_grownBy hV (grownBy_put _) hoff, ?_⟩
    have ho2 : w.ownsRow 0 T 1 (.slice (some ⟨g, 0, none⟩) l.length cap) l.length ((l.map (·.data.toList)).map encStr) := by rw [← flat_encTx]; exact ho'
    have hlen : (l.take i ++ l.drop j).length = l.length - (j - i) := by simp; omega
    have hr := Go.Lib.ownsRow_putRow (q := q) (k := l.length - (j - i)) (ys := (l.map (·.data.toList)).take i ++ (l.map (·.data.toList)).drop j ++ List.replicate (j - i) []) ho2 (by simp; omega) (by omega)
    rw [List.take_left' (by simp; omega)] at hr
    show World.ownsRow _ 0 T 1 _ (l.take i ++ l.drop j).length ((l.take i ++ l.drop j).flatMap encTx)
    rw [flat_encTx, hlen]
    have e1 : (l.take i ++ l.drop j).map (·.data.toList) = (l.map (·.data.toList)).take i ++ (l.map (·.data.toList)).drop j := by simp
    rw [e1]
    exact hr
/-- A slice is nil or not: if it is, nothing is in it. -/
theorem RSl.isNil {α : Type} {size : Nat} {R : Hv → List Value → α → Prop} {a : Option Addr} {len cap : Nat} {l : List α} (h : RSl size R σ (.slice a len cap) l) : a.isNone = true → l = [] := by
  intro hn
  cases a with
  | some _ => cases hn
  | none =>
    cases l with
    | nil => rfl
    | cons x l =>
      obtain ⟨_, _, h1, _, _, h4⟩ := h
      obtain ⟨ad, _, h0, _⟩ := h4 0 x rfl
      cases h1; cases h0
section
variable {ops : Array Oper} {rest : List Oper} {d : Nat} {t : TypeId} {p : String} {af : Array Edge}
theorem o_eqlnil {xt yt e : TypeId} {x : Operand} {a : Option Addr} {len cap : Nat} {r : Bool} (hu : P.underlying xt = some (.slice e)) (hx : ev n f x = .slice a len cap) (hr : a.isNone = r)
    (h : wpList P ops Q rest (mk n (upd f d (.bool r))) w) : wpList P ops Q (⟨some d, .binOp .eql xt x (.const (.slice none 0 0)) yt, t, p, af, none⟩ :: rest) (mk n f) w :=
  o_val rfl rfl (by
    subst hr
    have hy : ev n f (.const (.slice none 0 0)) = .slice none 0 0 := rfl
    simp [execOp, hx, hy, eqGuard, binOp, Op.equal, Op.maxDepth, Lib.run_equalIn_slice_nil w 9999 xt e a len cap 0 0 hu]) h
theorem o_neqnil {xt yt e : TypeId} {x : Operand} {a : Option Addr} {len cap : Nat} {r : Bool} (hu : P.underlying xt = some (.slice e)) (hx : ev n f x = .slice a len cap) (hr : (!a.isNone) = r)
    (h : wpList P ops Q rest (mk n (upd f d (.bool r))) w) : wpList P ops Q (⟨some d, .binOp .neq xt x (.const (.slice none 0 0)) yt, t, p, af, none⟩ :: rest) (mk n f) w :=
  o_val rfl rfl (by
    subst hr
    have hy : ev n f (.const (.slice none 0 0)) = .slice none 0 0 := rfl
    simp [execOp, hx, hy, eqGuard, binOp, Op.equal, Op.maxDepth, Lib.run_equalIn_slice_nil w 9999 xt e a len cap 0 0 hu]) h
end
def encEd (x : ByteArray × ByteArray) : List Value := [.string x.1, .string x.2]
theorem encEd_len (x : ByteArray × ByteArray) : (encEd x).length = 2 := rfl
theorem encEd_one (x : ByteArray × ByteArray) : ∀ u ∈ encEd x, u.oneCell' = true := by
  intro u hu; simp [encEd] at hu; rcases hu with rfl | rfl <;> rfl

end Go.Fl
end
/- Maps of lists: what a map's keys lead to are lists of the call's own, or lists that are only read. Conditions: none; every rule speaks of any program. -/
section
namespace Go.Fl
open Go Go.RowKit
variable {P : Program} {Q : Exit → Act → World → Prop} {n : Nat} {f : Fr} {w w' : World} {σ τ : Hv} {c : Cx} {ms ms' : List HObj}
variable {ops : Array Oper} {rest : List Oper} {d : Nat} {t : TypeId} {p : String} {af : Array Edge}

/-- Keys, the slices at them, and what these hold. -/
abbrev EL (α : Type) := List (ByteArray × Value × List α)
def efind {α : Type} (es : EL α) (k : ByteArray) : Option (ByteArray × Value × List α) := es.find? (fun e => decide (e.1 = k))
def asl {α : Type} (es : EL α) : ByteArray → Option Value := fun k => (efind es k).map (·.2.1)
def elems {α : Type} (T s : Nat) (enc : α → List Value) (es : EL α) : List HObj := es.map fun e => vec e.2.1 T s e.2.2.length (e.2.2.flatMap enc)
def ELF {α : Type} (es : EL α) (F : ByteArray → Option (List α)) : Prop := (∀ k, F k = (efind es k).map (·.2.2)) ∧ ∀ e ∈ es, Sml e.2.2.length
def Lent {α : Type} (es es' : EL α) (k : ByteArray) : Prop := (∀ k', k' ≠ k → efind es' k' = efind es k') ∧ ∀ e ∈ es', e ∈ es
theorem ELF.nil {α : Type} : ELF ([] : EL α) (fun _ => none) := ⟨fun _ => rfl, by simp⟩
theorem Lent.refl {α : Type} (es : EL α) (k : ByteArray) : Lent es es k := ⟨fun _ _ => rfl, fun _ h => h⟩

theorem St.perm (h : St c w σ ms) (hp : ms.Perm ms') : St c w σ ms' :=
  ⟨h.keeps, h.view, h.sub, h.fresh, fun o ho => h.own o (hp.mem_iff.2 ho), hp.pairwise h.sep fun hab k hb ha => hab k ha hb,
    fun o ho => h.off o (hp.mem_iff.2 ho), fun o ho => h.new o (hp.mem_iff.2 ho)⟩

theorem find_split {α : Type} {es : EL α} {k : ByteArray} {e : ByteArray × Value × List α} (h : efind es k = some e) :
    ∃ a b, es = a ++ e :: b ∧ e.1 = k ∧ efind a k = none := by
  induction es with
  | nil => cases h
  | cons x xs ih =>
    by_cases hx : x.1 = k
    · have : x = e := by simpa [efind, List.find?_cons, hx] using h
      exact ⟨[], xs, by rw [this]; rfl, by rw [← this]; exact hx, rfl⟩
    · have h' : efind xs k = some e := by simpa [efind, List.find?_cons, hx] using h
      obtain ⟨a, b, h1, h2, h3⟩ := ih h'
      exact ⟨x :: a, b, by rw [h1]; rfl, h2, by simpa [efind, List.find?_cons, hx] using h3⟩

/-- The slice at a key is taken out of the map's store, to be grown. -/
theorem St.borrow {α : Type} {T s : Nat} {enc : α → List Value} {es : EL α} {F : ByteArray → Option (List α)} (h : St c w σ (ms ++ elems T s enc es)) (hF : ELF es F) (k : ByteArray) {v : Value}
    (hv : (asl es k).getD (.slice none 0 0) = v) : ∃ es', St c w σ (vec v T s ((F k).getD []).length (((F k).getD []).flatMap enc) :: (ms ++ elems T s enc es')) ∧ Lent es es' k ∧ Sml ((F k).getD []).length := by
  rcases he : efind es k with _ | e
  · have h1 : F k = none := by rw [hF.1 k, he]; rfl
    have h2 : v = .slice none 0 0 := by rw [← hv]; simp [asl, he]
    subst h2
    rw [h1]
    exact ⟨es, h.addNil T s, .refl es k, by simp [Sml]⟩
  · have h1 : F k = some e.2.2 := by rw [hF.1 k, he]; rfl
    have h2 : v = e.2.1 := by rw [← hv]; simp [asl, he]
    subst h2
    rw [h1]
    obtain ⟨a, b, rfl, hk, ha⟩ := find_split he
    refine ⟨a ++ b, h.perm ?_, ⟨fun k' hk' => ?_, fun x hx => ?_⟩, hF.2 e (by simp)⟩
    · simp only [elems, List.map_append, List.map_cons, Option.getD_some]
      rw [← List.append_assoc, ← List.append_assoc]
      exact List.perm_middle
    · have hne : ¬ e.1 = k' := fun hh => hk' (hh.symm.trans hk)
      simp [efind, List.find?_append, hne]
    · rcases List.mem_append.1 hx with hx | hx <;> simp [hx]

/-- What has grown is put at its key. -/
theorem St.giveback {α : Type} {T s : Nat} {enc : α → List Value} {es es' : EL α} {v : Value} {l : List α} {k : ByteArray} {i b : Nat}
    (h : St c w σ (vec v T s l.length (l.flatMap enc) :: (ms ++ elems T s enc es'))) (hL : Lent es es' k)
    (hi : ms[i]? = some (smap b (fun k' => if k' = k then some v else asl es k'))) (hms : ms.set i (smap b (asl ((k, v, l) :: es'))) = ms') : St c w σ (ms' ++ elems T s enc ((k, v, l) :: es')) := by
  subst hms
  have e1 : smap b (fun k' => if k' = k then some v else asl es k') = smap b (asl ((k, v, l) :: es')) := smap_congr fun k' => by
    by_cases hk : k' = k
    · subst hk; simp [asl, efind]
    · have hk' : ¬ k = k' := fun e => hk e.symm
      have := hL.1 k' hk
      unfold efind at this
      simp [asl, efind, hk, hk', this]
  have e2 : ms.set i (smap b (asl ((k, v, l) :: es'))) = ms := by
    rw [← e1]
    obtain ⟨hil, he⟩ := List.getElem?_eq_some_iff.1 hi
    rw [← he, List.set_getElem_self]
  rw [e2]
  refine h.perm ?_
  simp only [elems, List.map_cons]
  exact List.perm_middle.symm
theorem ELF.put {α : Type} {es es' : EL α} {F : ByteArray → Option (List α)} {v : Value} {l : List α} {k : ByteArray} (hF : ELF es F) (hL : Lent es es' k) (hl : Sml l.length) : ELF ((k, v, l) :: es') (put F k l) := by
  refine ⟨fun k' => ?_, fun e he => ?_⟩
  · by_cases hk : k' = k
    · subst hk; simp [Fl.put, efind]
    · have hk' : ¬ k = k' := fun e => hk e.symm
      have h1 := hL.1 k' hk
      have h2 := hF.1 k'
      unfold efind at h1 h2
      simp [Fl.put, efind, hk, hk', h1, h2]
  · rcases List.mem_cons.1 he with rfl | he
    · exact hl
    · exact hF.2 e (hL.2 e he)

/-- A map that is only read: what its elements stand for. -/
def ORel {β : Type} (R : Value → β → Prop) : Option Value → Option β → Prop
  | none, none => True
  | some v, some y => R v y
  | _, _ => False
def RMa {β : Type} (Z : Hv → Value → β → Prop) (σ : Hv) (b : Nat) (es : Array MapEntry) (clock : Nat) (F : ByteArray → Option β) : Prop :=
  σ b = some (.map es clock) ∧ StrKeys es.toList ∧ MBk es.toList clock ∧ ∀ k, ORel (Z σ) (lk es.toList k) (F k)
def RMp {β : Type} (Z : Hv → Value → β → Prop) (σ : Hv) (v : Value) (F : ByteArray → Option β) : Prop := ∃ b es clock, v = .map (some b) ∧ RMa Z σ b es clock F
def REv {β : Type} (enc : β → Value) (_ : Hv) (v : Value) (y : β) : Prop := v = enc y
theorem ORel.isSome {β : Type} {R : Value → β → Prop} {a : Option Value} {y : Option β} (h : ORel R a y) : a.isSome = y.isSome := by
  cases a <;> cases y <;> first | rfl | exact h.elim
theorem ORel.imp {β : Type} {R S : Value → β → Prop} {a : Option Value} {y : Option β} (h : ORel R a y) (hi : ∀ v y, R v y → S v y) : ORel S a y := by
  cases a <;> cases y <;> first | exact h.elim | exact trivial | exact hi _ _ h
theorem ORel.getD {β : Type} {R : Value → β → Prop} {a : Option Value} {y : Option β} (h : ORel R a y) {z : Value} {z0 : β} (hz : R z z0) : R (a.getD z) (y.getD z0) := by
  cases a <;> cases y <;> first | exact h.elim | exact hz | exact h
theorem RMp.shape {β : Type} {Z : Hv → Value → β → Prop} {v : Value} {F : ByteArray → Option β} (h : RMp Z σ v F) : ∃ b, v = .map (some b) := by
  obtain ⟨b, _, _, h1, _⟩ := h; exact ⟨b, h1⟩
theorem RMp.open {β : Type} {Z : Hv → Value → β → Prop} {b : Nat} {F : ByteArray → Option β} (h : RMp Z σ (.map (some b)) F) : ∃ es clock, RMa Z σ b es clock F := by
  obtain ⟨_, es, clock, h1, h2⟩ := h; cases h1; exact ⟨es, clock, h2⟩
theorem RMa.mono {β : Type} {Z : Hv → Value → β → Prop} {b clock : Nat} {es : Array MapEntry} {F : ByteArray → Option β} (hZ : ∀ v y, Z σ v y → Z τ v y) (hs : Sub σ τ) (h : RMa Z σ b es clock F) : RMa Z τ b es clock F :=
  ⟨hs _ _ h.1, h.2.1, h.2.2.1, fun k => (h.2.2.2 k).imp hZ⟩
theorem RMp.mono {β : Type} {Z : Hv → Value → β → Prop} {v : Value} {F : ByteArray → Option β} (hZ : ∀ v y, Z σ v y → Z τ v y) (hs : Sub σ τ) (h : RMp Z σ v F) : RMp Z τ v F := by
  obtain ⟨b, es, clock, h1, h2⟩ := h
  exact ⟨b, es, clock, h1, h2.mono hZ hs⟩
/-- What is at a key of a map that is only read. -/
def LkR (σ : Hv) (b : Nat) (k : ByteArray) (z v : Value) (r : Bool) : Prop := ∃ es clock, σ b = some (.map es clock) ∧ StrKeys es.toList ∧ (lk es.toList k).getD z = v ∧ (lk es.toList k).isSome = r
theorem RMp.at {β : Type} {Z : Hv → Value → β → Prop} {b : Nat} {F : ByteArray → Option β} {z : Value} {z0 : β} (hz : Z σ z z0) (h : RMp Z σ (.map (some b)) F) (k : ByteArray) : ∃ v, LkR σ b k z v (F k).isSome ∧ Z σ v ((F k).getD z0) := by
  obtain ⟨b', es, clock, h1, h2, h3, _, h4⟩ := h
  cases h1
  exact ⟨_, ⟨es, clock, h2, h3, rfl, (h4 k).isSome⟩, (h4 k).getD hz⟩
theorem run_lookR {ty kt et : TypeId} {b clock : Nat} {es : Array MapEntry} {k : ByteArray} {z : Value} (hb : w.heap[b]? = some (.map es clock)) (h2 : StrKeys es.toList) (hu : P.underlying ty = some (.map kt et)) (hk : P.underlying kt = some .string) (hz : ∀ w, (zeroValue et).run P w = .ok z w) (cok : Bool) :
    (Instr.lookup ty (.map (some b)) (.string k) cok).run P w = .ok (if cok then .tuple #[(lk es.toList k).getD z, .bool (lk es.toList k).isSome] else (lk es.toList k).getD z) w := by
  obtain ⟨r, hr, hd⟩ := find_str k es.toList 0 h2
  unfold Instr.lookup
  rcases hd with ⟨rfl, hm⟩ | ⟨j, v, rfl, hm, _⟩
  · cases cok <;> simp [Sem.run_bind, run_underlying hu, MapKept.run_getObj_map hb, checkKey_string hk, findKey_string hk hr, hz, hm]
  · cases cok <;> simp [Sem.run_bind, run_underlying hu, MapKept.run_getObj_map hb, checkKey_string hk, findKey_string hk hr, hm]
theorem o_lookR {ty kt et : TypeId} {x y : Operand} {b : Nat} {k : ByteArray} {z v : Value} {r : Bool} (hL : LkR τ b k z v r) (hV : View τ w) (hx : ev n f x = .map (some b)) (hy : ev n f y = .string k)
    (hu : P.underlying ty = some (.map kt et)) (hk : P.underlying kt = some .string) (hz : ∀ w, (zeroValue et).run P w = .ok z w)
    (h : wpList P ops Q rest (mk n (upd f d v)) w) : wpList P ops Q (⟨some d, .lookup ty x y false, t, p, af, none⟩ :: rest) (mk n f) w := by
  obtain ⟨es, clock, h1, h2, h3, h4⟩ := hL
  exact o_val rfl rfl (by subst h3; simp only [execOp, hx, hy, Sem.run_bind, run_lookR (hV _ _ h1) h2 hu hk hz false, Result.andThen_ok]; rfl) h
theorem o_lookR_ok {ty kt et : TypeId} {x y : Operand} {b : Nat} {k : ByteArray} {z v : Value} {r : Bool} (hL : LkR τ b k z v r) (hV : View τ w) (hx : ev n f x = .map (some b)) (hy : ev n f y = .string k)
    (hu : P.underlying ty = some (.map kt et)) (hk : P.underlying kt = some .string) (hz : ∀ w, (zeroValue et).run P w = .ok z w)
    (h : wpList P ops Q rest (mk n (upd f d (.tuple #[v, .bool r]))) w) : wpList P ops Q (⟨some d, .lookup ty x y true, t, p, af, none⟩ :: rest) (mk n f) w := by
  obtain ⟨es, clock, h1, h2, h3, h4⟩ := hL
  exact o_val rfl rfl (by subst h3; subst h4; simp only [execOp, hx, hy, Sem.run_bind, run_lookR (hV _ _ h1) h2 hu hk hz true, Result.andThen_ok]; rfl) h

/-! A range over a map that is only read. -/
theorem lk_some {es : List MapEntry} {k : ByteArray} {v : Value} (h : lk es k = some v) : ∃ e ∈ es, e.key = .string k ∧ e.val = v := by
  induction es with
  | nil => cases h
  | cons x xs ih =>
    simp only [lk] at h
    split at h
    · rename_i hx
      refine ⟨x, by simp, ?_, by simpa using h⟩
      revert hx
      cases hk : x.key <;> simp [keyIs]
    · obtain ⟨e, h1, h2⟩ := ih h
      exact ⟨e, by simp [h1], h2⟩
theorem lk_mem {es : List MapEntry} (hn : (es.map (·.key)).Nodup) {e : MapEntry} (he : e ∈ es) {k : ByteArray} (hk : e.key = .string k) : lk es k = some e.val := by
  induction es with
  | nil => cases he
  | cons x xs ih =>
    rw [List.map_cons, List.nodup_cons] at hn
    rcases List.mem_cons.1 he with rfl | he
    · simp [lk, hk, keyIs]
    · have hne : keyIs x.key k = false := by
        rcases hq : keyIs x.key k with _ | _
        · rfl
        · exfalso
          have : x.key = .string k := by revert hq; cases hk' : x.key <;> simp [keyIs]
          exact hn.1 (List.mem_map.2 ⟨e, he, hk.trans this.symm⟩)
      simp [lk, hne, ih hn.2 he]
theorem str_keys {es : List MapEntry} (h : StrKeys es) : ∃ ks : List ByteArray, es.map (·.key) = ks.map Value.string := by
  induction es with
  | nil => exact ⟨[], rfl⟩
  | cons x xs ih =>
    obtain ⟨ks, hk⟩ := ih fun e he => h e (by simp [he])
    obtain ⟨k, hx⟩ := h x (by simp)
    exact ⟨k :: ks, by simp [hx, hk]⟩
theorem RMa.keys {β : Type} {Z : Hv → Value → β → Prop} {b clock : Nat} {es : Array MapEntry} {F : ByteArray → Option β} (h : RMa Z σ b es clock F) : ∃ ks : List ByteArray, ks.Nodup ∧ ∀ k, k ∈ ks ↔ (F k).isSome = true := by
  obtain ⟨_, h2, h3, h4⟩ := h
  obtain ⟨ks, hk⟩ := str_keys h2
  refine ⟨ks, ?_, fun k => ?_⟩
  · have := h3.1
    rw [hk] at this
    exact (List.pairwise_map.1 this).imp fun hab e => hab (by rw [e])
  · rw [← (h4 k).isSome]
    constructor
    · intro hm
      have hmm : Value.string k ∈ es.toList.map (·.key) := by rw [hk]; exact List.mem_map.2 ⟨k, hm, rfl⟩
      obtain ⟨e, he, hek⟩ := List.mem_map.1 hmm
      rw [lk_mem h3.1 he hek]; rfl
    · intro hs
      obtain ⟨v, hv⟩ := Option.isSome_iff_exists.1 hs
      obtain ⟨e, he, hek, _⟩ := lk_some hv
      have hmm : e.key ∈ ks.map Value.string := by rw [← hk]; exact List.mem_map.2 ⟨e, he, rfl⟩
      obtain ⟨k', hk', e'⟩ := List.mem_map.1 hmm
      rw [hek] at e'
      cases e'; exact hk'
theorem entry_eq_of_key' {es : List MapEntry} (hn : (es.map (·.key)).Nodup) {x y : MapEntry} (hx : x ∈ es) (hy : y ∈ es) (h : x.key = y.key) : x = y := by
  induction es with
  | nil => cases hx
  | cons z zs ih =>
    rw [List.map_cons, List.nodup_cons] at hn
    rcases List.mem_cons.1 hx with rfl | hx' <;> rcases List.mem_cons.1 hy with rfl | hy'
    · rfl
    · exact absurd (List.mem_map.2 ⟨y, hy', h.symm⟩) hn.1
    · exact absurd (by rw [← h]; exact List.mem_map.2 ⟨x, hx', rfl⟩) hn.1
    · exact ih hn.2 hx' hy'
/-- An iterator of the call's own: which keys have come, and which one came last. -/
def itr (r b : Nat) (es : Array MapEntry) (clock : Nat) (done : List ByteArray) (cur : Option (ByteArray × Value)) : HObj where
  foot := some r
  ok w := ∃ seen, w.heap[r]? = some (.mapIter (some b) clock seen clock) ∧ (∀ e ∈ es.toList, e.born ∈ seen.toList ↔ ∃ k ∈ done, e.key = .string k) ∧
    ∀ kv, cur = some kv → ∃ (s0 : Array Nat) (e : MapEntry), seen = s0.push e.born ∧ e ∈ es.toList ∧ e.key = .string kv.1 ∧ e.val = kv.2
  stay w w' h hk := by
    obtain ⟨seen, h1, h2⟩ := hk
    exact ⟨seen, (h r rfl).trans h1, h2⟩
  lt w k hk hf := by
    cases hf
    obtain ⟨seen, h1, _⟩ := hk
    exact (Array.getElem?_eq_some_iff.1 h1).1
theorem o_range {ty kt et : TypeId} {x : Operand} {b clock : Nat} {es : Array MapEntry} (hS : St c w σ ms) (hb : τ b = some (.map es clock)) (hV : View τ w) (hx : ev n f x = .map (some b)) (hu : P.underlying ty = some (.map kt et))
    (h : ∀ r w', St c w' σ (itr r b es clock [] none :: ms) → wpList P ops Q rest (mk n (upd f d (.pointer (some ⟨r, 0, none⟩)))) w') : wpList P ops Q (⟨some d, .range ty x, t, p, af, none⟩ :: rest) (mk n f) w := by
  have h1 := hV _ _ hb
  refine o_val rfl rfl (v := .pointer (some ⟨w.heap.size, 0, none⟩)) (w' := w.alloc (.mapIter (some b) clock #[] clock)) ?_ ?_
  · simp [execOp, hx, Instr.range, Sem.run_bind, run_underlying hu, MapKept.run_getObj_map h1]
  · refine h _ _ (hS.add (alloc_keeps w _) ⟨#[], heap_alloc_new _ _, by simp, by simp⟩ (by rintro k ⟨⟩; exact Nat.le_refl _))
theorem o_next {β : Type} {Z : Hv → Value → β → Prop} {F : ByteArray → Option β} {x : Operand} {r b clock i : Nat} {es : Array MapEntry} {done : List ByteArray} {cur : Option (ByteArray × Value)} (hS : St c w σ ms) (hM : RMa Z τ b es clock F) (hV : View τ w)
    (hx : ev n f x = .pointer (some ⟨r, 0, none⟩)) (hi : ms[i]? = some (itr r b es clock done cur))
    (h0 : (∀ k, (F k).isSome = true → k ∈ done) → wpList P ops Q rest (mk n (upd f d (.tuple #[.bool false]))) w)
    (h1 : ∀ k v y w', F k = some y → k ∉ done → Z τ v y → St c w' σ (ms.set i (itr r b es clock (k :: done) (some (k, v)))) → wpList P ops Q rest (mk n (upd f d (.tuple #[.bool true, .string k, v]))) w') :
    wpList P ops Q (⟨some d, .next x false, t, p, af, none⟩ :: rest) (mk n f) w := by
  obtain ⟨m1, m2, m3, m4⟩ := hM
  obtain ⟨seen, k1, k2, k3⟩ := hS.get hi
  have hold : ∀ x ∈ es.toList, x.born < clock := fun x hx => m3.2.2 _ (List.mem_map.2 ⟨x, hx, rfl⟩)
  have hmem : ∀ e, e ∈ (leftOf es seen).toList ↔ e ∈ es.toList ∧ e.born ∉ seen.toList := by intro e; simp [leftOf]
  rcases run_next_at (P := P) w t r b clock clock seen es clock k1 (hV _ _ m1) hold (Nat.le_refl _) with ⟨hz, hr⟩ | ⟨e, he, w1, hw, hr⟩
  · refine o_val rfl rfl (by simp only [execOp, hx, Sem.run_bind, hr, Result.andThen_ok]; rfl) (h0 fun k hk => ?_)
    rw [← (m4 k).isSome] at hk
    obtain ⟨v, hv⟩ := Option.isSome_iff_exists.1 hk
    obtain ⟨e, he, hek, _⟩ := lk_some hv
    have hin : e.born ∈ seen.toList := by
      rcases Classical.em (e.born ∈ seen.toList) with hh | hh
      · exact hh
      · exfalso
        have := (hmem e).2 ⟨he, hh⟩
        rw [Array.eq_empty_of_size_eq_zero hz] at this
        simp at this
    obtain ⟨k', hk', e'⟩ := (k2 e he).1 hin
    rw [hek] at e'
    cases e'; exact hk'
  · obtain ⟨hes, hns⟩ := (hmem e).1 he
    obtain ⟨k, hk⟩ := m2 e hes
    have hlk := lk_mem m3.1 hes hk
    have hF := m4 k
    rw [hlk] at hF
    rcases hq : F k with _ | y
    · rw [hq] at hF; exact hF.elim
    · rw [hq] at hF
      have hlt : r < w.heap.size := (Array.getElem?_eq_some_iff.1 k1).1
      rw [hk] at hr
      refine o_val rfl rfl (by simp only [execOp, hx, Sem.run_bind, hr, Result.andThen_ok]; rfl) (h1 k e.val y _ hq (fun hd => hns ((k2 e hes).2 ⟨k, hd, hk⟩)) hF ?_)
      have hheap : w1.heap = w.heap := by rcases hw with rfl | rfl <;> rfl
      refine hS.step (o' := itr r b es clock (k :: done) (some (k, e.val))) hi ⟨?_, ?_, ?_, ?_, fun j hj hm => ?_⟩ ⟨seen.push e.born, ?_, fun e' he' => ?_, fun kv hkv => ?_⟩ (by rintro q ⟨⟩; exact .inl rfl) rfl hS.view.none_of_ge
      · rcases hw with rfl | rfl <;> rfl
      · rcases hw with rfl | rfl <;> rfl
      · rcases hw with rfl | rfl <;> rfl
      · simp [ChangeMaps.setBlock, hheap]
      · show (w1.heap.setIfInBounds r _)[j]? = _
        rw [Array.getElem?_setIfInBounds, if_neg (by intro e; exact hm (by simp [itr, e])), hheap]
      · show (w1.heap.setIfInBounds r _)[r]? = _
        rw [Array.getElem?_setIfInBounds, if_pos rfl, hheap, if_pos hlt]
      · rw [Array.toList_push, List.mem_append, k2 e' he', List.mem_singleton]
        constructor
        · rintro (⟨q, h1, h2⟩ | hb)
          · exact ⟨q, by simp [h1], h2⟩
          · have h5 := find_born e es.toList m3.2.1 hes
            have h6 := find_born e' es.toList m3.2.1 he'
            rw [hb, h5] at h6
            cases h6
            exact ⟨k, by simp, hk⟩
        · rintro ⟨q, h1, h2⟩
          rcases List.mem_cons.1 h1 with rfl | h1
          · right
            exact congrArg MapEntry.born (entry_eq_of_key' m3.1 he' hes (h2.trans hk.symm))
          · exact .inl ⟨q, h1, h2⟩
      · cases hkv
        exact ⟨seen, e, rfl, hes, hk, rfl⟩
theorem o_entry {β : Type} {Z : Hv → Value → β → Prop} {F : ByteArray → Option β} {x : Operand} {r b clock i : Nat} {es : Array MapEntry} {done : List ByteArray} {kk : ByteArray} {v : Value} (hS : St c w σ ms) (hM : RMa Z τ b es clock F) (hV : View τ w)
    (hx : ev n f x = .pointer (some ⟨r, 0, none⟩)) (hi : ms[i]? = some (itr r b es clock done (some (kk, v))))
    (h : wpList P ops Q rest (mk n (upd f d (.tuple #[.string kk, v]))) w) : wpList P ops Q (⟨some d, .entry x, t, p, af, none⟩ :: rest) (mk n f) w := by
  obtain ⟨m1, m2, m3, m4⟩ := hM
  obtain ⟨seen, k1, k2, k3⟩ := hS.get hi
  obtain ⟨s0, e, rfl, he, hk, hv⟩ := k3 _ rfl
  have := run_entry_at (P := P) w r b clock s0 es clock e k1 (hV _ _ m1) he m3.2.1
  rw [hk, hv] at this
  exact o_val rfl rfl (by simp only [execOp, hx, Sem.run_bind, this, Result.andThen_ok]; rfl) h

/-- The slices of a map are written no more. -/
theorem St.freezeE {α : Type} {T s : Nat} {enc : α → List Value} (he : ∀ x, (enc x).length = s) : ∀ (es : EL α) {σ : Hv}, St c w σ (ms ++ elems T s enc es) → (∀ e ∈ es, Sml e.2.2.length) →
    ∃ σ1, St c w σ1 ms ∧ Sub σ σ1 ∧ ∀ e ∈ es, RSl s (REnc enc) σ1 e.2.1 e.2.2
  | [], σ, h, _ => ⟨σ, by simpa [elems] using h, .refl _, by simp⟩
  | e :: es, σ, h, hl => by
    have h1 : St c w σ (vec e.2.1 T s e.2.2.length (e.2.2.flatMap enc) :: (ms ++ elems T s enc es)) := h.perm List.perm_middle
    obtain ⟨σ1, h2, h3, h4⟩ := h1.peek (i := 0) rfl he (hl e (by simp))
    obtain ⟨σ2, h5, h6, h7⟩ := St.freezeE he es (σ := σ1) h2 (fun x hx => hl x (by simp [hx]))
    refine ⟨σ2, h5, h3.trans h6, fun x hx => ?_⟩
    rcases List.mem_cons.1 hx with rfl | hx
    · exact RSl.menc h6 h4
    · exact h7 x hx
/-- A map of slices is written no more. -/
theorem St.freezeL {α : Type} {T s i b : Nat} {enc : α → List Value} {es : EL α} {F : ByteArray → Option (List α)} (h : St c w σ (ms ++ elems T s enc es)) (hF : ELF es F) (he : ∀ x, (enc x).length = s)
    (hi : ms[i]? = some (smap b (asl es))) (hms : ms.eraseIdx i = ms') : ∃ σ1, St c w σ1 ms' ∧ Sub σ σ1 ∧ RMp (RSl s (REnc enc)) σ1 (.map (some b)) F := by
  obtain ⟨σ1, h1, h2, h3⟩ := St.freezeE he es h hF.2
  obtain ⟨es0, clock, k1, k2, k3, k4⟩ := h1.get hi
  obtain ⟨σ2, h4, h5, h6⟩ := h1.freeze' hi hms
  refine ⟨σ2, h4, h2.trans h5, b, es0, clock, rfl, (h6 b rfl).trans k1, k2, k4, fun k => ?_⟩
  rw [k3 k, hF.1 k]
  unfold asl
  rcases hq : efind es k with _ | e
  · exact trivial
  · exact RSl.menc h5 (h3 e (List.mem_of_find?_eq_some hq))
/-- A map of plain elements is written no more. -/
theorem St.freezeMp {α : Type} {i b : Nat} {enc : α → Value} {F : ByteArray → Option α} (h : St c w σ ms) (hi : ms[i]? = some (emap b enc F)) (hms : ms.eraseIdx i = ms') :
    ∃ σ1, St c w σ1 ms' ∧ Sub σ σ1 ∧ RMp (REv enc) σ1 (.map (some b)) F := by
  obtain ⟨es0, clock, k1, k2, k3, k4⟩ := h.get hi
  obtain ⟨σ2, h4, h5, h6⟩ := h.freeze' hi hms
  refine ⟨σ2, h4, h5, b, es0, clock, rfl, (h6 b rfl).trans k1, k2, k4, fun k => ?_⟩
  rw [k3 k]
  show ORel (REv enc σ2) ((F k).map enc) (F k)
  cases F k
  · exact trivial
  · rfl
theorem REv.mono {β : Type} {enc : β → Value} : ∀ v y, REv enc σ v y → REv enc τ v y := fun _ _ h => h
theorem RSl.mz {α : Type} {size : Nat} {enc : α → List Value} (hs : Sub σ τ) : ∀ v (y : List α), RSl size (REnc enc) σ v y → RSl size (REnc enc) τ v y := fun _ _ h => RSl.menc hs h
theorem o_makemapL {α : Type} {ty : TypeId} (T s : Nat) (enc : α → List Value) (hS : St c w σ ms)
    (h : ∀ b w', St c w' σ ((smap b (asl ([] : EL α)) :: ms) ++ elems T s enc []) → wpList P ops Q rest (mk n (upd f d (.map (some b)))) w') : wpList P ops Q (⟨some d, .makeMap ty none, t, p, af, none⟩ :: rest) (mk n f) w :=
  o_makemap hS fun b w' h' => h b w' (by rw [elems, List.map_nil, List.append_nil]; exact h')
/-- The first elements of an owned slice, still owned. -/
theorem vec_takev {T size k m : Nat} {a : Option Addr} {cap : Nat} {xs : List Value} (h : (vec (.slice a k cap) T size k xs).ok w) (hm : m ≤ k) : (vec (.slice a m cap) T size m (xs.take (m * size))).ok w := by
  obtain ⟨h1, h2⟩ := h
  refine ⟨by rw [List.length_take, h1]; exact Nat.min_eq_left (Nat.mul_le_mul_right _ hm), ?_⟩
  rcases h2 with ⟨h2, h3⟩ | ⟨g, cap', cur, hv, hg, hh, h3, h4, h5, h6⟩
  · cases h2
    exact .inl ⟨by rw [show m = 0 from by omega], by omega⟩
  · cases hv
    refine .inr ⟨g, _, cur, rfl, hg, hh, by omega, h4, h5, ?_⟩
    rw [← h6, List.take_take, Nat.min_eq_left (Nat.mul_le_mul_right _ hm)]
theorem take_flat {α : Type} {enc : α → List Value} {size : Nat} (he : ∀ x, (enc x).length = size) : ∀ (l : List α) (m : Nat), (l.flatMap enc).take (m * size) = (l.take m).flatMap enc
  | [], m => by simp
  | x :: l, 0 => by simp
  | x :: l, m + 1 => by
    have hl : (m + 1) * size = (enc x).length + m * size := by rw [he, Nat.add_mul, Nat.one_mul, Nat.add_comm]
    rw [List.flatMap_cons, List.take_succ_cons, List.flatMap_cons, hl, List.take_length_add_append, take_flat he l m]
/-- A slice of the call's own gets shorter. -/
theorem St.cut {α : Type} {T size i m : Nat} {a : Option Addr} {cap : Nat} {enc : α → List Value} {l : List α} (h : St c w σ ms) (hi : ms[i]? = some (vec (.slice a l.length cap) T size l.length (l.flatMap enc))) (he : ∀ x, (enc x).length = size) (hm : m ≤ l.length)
    (hms : ms.set i (vec (.slice a m cap) T size (l.take m).length ((l.take m).flatMap enc)) = ms') : St c w σ ms' := by
  refine h.step hi (.refl _ _) ?_ ?_ hms h.view.none_of_ge
  · have := vec_takev (h.get hi) hm
    rw [take_flat he] at this
    rw [show (l.take m).length = m from by simp [hm]]
    exact this
  · intro k hk
    cases a <;> exact .inl hk
theorem vec_anyc {v : Value} {T size k : Nat} {xs : List Value} (h : (vec v T size k xs).ok w) : ∃ a cap, v = .slice a k cap ∧ k ≤ cap := by
  rcases (vec_shape h).2 with ⟨hv, rfl⟩ | ⟨g, cap, hv, h1, _⟩
  · exact ⟨_, _, hv, Nat.le_refl _⟩
  · exact ⟨_, _, hv, h1⟩
theorem sml_take {α : Type} {l : List α} {k : Nat} (h : Sml l.length) : Sml (l.take k).length := by unfold Sml at *; rw [List.length_take]; omega
/-! A literal whose elements read memory. -/
inductive RL {β : Type} (s : Nat) (Z : List Value → β → Prop) : List Value → List β → Prop
  | nil : RL s Z [] []
  | cons {c cs : List Value} {x : β} {xs : List β} : c.length = s → Z c x → RL s Z cs xs → RL s Z (c ++ cs) (x :: xs)
theorem RL.len {β : Type} {s : Nat} {Z : List Value → β → Prop} {cs : List Value} {xs : List β} (h : RL s Z cs xs) : cs.length = xs.length * s := by
  induction h with
  | nil => simp
  | cons h1 _ _ ih => rw [List.length_append, ih, h1, List.length_cons, Nat.add_mul, Nat.one_mul, Nat.add_comm]
theorem RL.at {β : Type} {s : Nat} {Z : List Value → β → Prop} {cs : List Value} {xs : List β} (h : RL s Z cs xs) : ∀ (i : Nat) x, xs[i]? = some x → ((cs.drop (i * s)).take s).length = s ∧ Z ((cs.drop (i * s)).take s) x := by
  induction h with
  | nil => intro i x hx; simp at hx
  | cons h1 h2 _ ih =>
    intro i x hx
    cases i with
    | zero =>
      simp only [List.getElem?_cons_zero, Option.some.injEq] at hx
      subst hx
      rw [Nat.zero_mul, List.drop_zero, List.take_left' h1]
      exact ⟨h1, h2⟩
    | succ i =>
      rw [List.getElem?_cons_succ] at hx
      have := ih i x hx
      rwa [Nat.add_mul, Nat.one_mul, Nat.add_comm, ← h1, List.drop_length_add_append, h1]
theorem RSl.ofLit {β : Type} {s T b k : Nat} {R : Hv → List Value → β → Prop} {cs : List Value} {xs : List β} (hw : w.heap[b]? = some (.cells cs.toArray T (0, 0))) (hb : σ b = w.heap[b]?) (h : RL s (R σ) cs xs) (hk : xs.length = k) (hm : k ≤ 140737488355328) :
    RSl s R σ (.slice (some ⟨b, 0, none⟩) k k) xs := by
  subst hk
  refine RSl.ofVec (T := T) (w := w) (xs := cs) ⟨h.len, .inr ⟨b, xs.length, cs.toArray, rfl, Nat.zero_le _, hw, Nat.le_refl _, by unfold maxLen; omega, by simpa using h.len, ?_⟩⟩ ?_ rfl hm h.at
  · rw [← h.len]; simp
  · intro b' hb'
    cases hb'
    exact hb
theorem RSs.mk {α : Type} {s : Nat} {R : Hv → List Value → α → Prop} {v : Value} {l : List α} (h : RSl s R σ v l) : RSs s R σ [v] l := ⟨v, rfl, h⟩
/-! make([]T, k): k zero values. -/
theorem flat_rep {α : Type} {enc : α → List Value} {s : Nat} (he : ∀ x, (enc x).length = s) (z : α) : ∀ (k j : Nat), j < k * s → ((List.replicate k z).flatMap enc)[j]? = (enc z)[j % s]?
  | 0, j, h => by omega
  | k + 1, j, h => by
    rw [List.replicate_succ, List.flatMap_cons]
    by_cases hj : j < s
    · rw [List.getElem?_append_left (by rw [he]; exact hj), Nat.mod_eq_of_lt hj]
    · have h' : j < k * s + s := by rw [Nat.add_mul, Nat.one_mul] at h; exact h
      rw [List.getElem?_append_right (by rw [he]; omega), he, flat_rep he z k (j - s) (by omega), ← Nat.mod_eq_sub_mod (by omega)]
theorem made_many {α : Type} {enc : α → List Value} {s : Nat} (he : ∀ x, (enc x).length = s) (z : α) {cs : Array Value} (hc : cs.toList = enc z) (k : Nat) : (madeCells cs (k * s)).toList = (List.replicate k z).flatMap enc := by
  have hs : cs.size = s := by rw [← Array.length_toList, hc, he]
  apply List.ext_getElem?
  intro j
  by_cases hj : j < k * s
  · rw [flat_rep he z k j hj, ← hc]
    have hpos : 0 < s := by
      rcases Nat.eq_zero_or_pos s with h0 | h0
      · rw [h0] at hj; omega
      · exact h0
    have hjs : j % s < cs.size := by rw [hs]; exact Nat.mod_lt _ hpos
    simp [madeCells, hs, hj]
    rw [Array.getElem?_eq_getElem hjs, getElem!_pos cs _ hjs]
  · rw [List.getElem?_eq_none (by simp [madeCells]; omega), List.getElem?_eq_none]
    rw [flat_len he, List.length_replicate]; omega
/-- A store into an owned slice whose value has another spelling; the elements keep their number. -/
theorem o_store_vecv {α : Type} {enc : α → List Value} {ty : TypeId} {x y : Operand} {g cap T size o j a b : Nat} {u v0 : Value} {l : List α} {e z : α} {vs : List Value} {i : Nat} (hS : St c w σ ms) (hx : ev n f x = .pointer (some ⟨g, o, none⟩)) (hy : ev n f y = u)
    (hvs : u.cells.toList = vs) (hs : ∀ w, (sizeOf ty).run P w = .ok j w) (hl : vs.length = j) (h1 : ∀ u ∈ vs, u.oneCell' = true) (hv : v0 = .slice (some ⟨g, 0, none⟩) l.length cap)
    (hi : ms[i]? = some (vec v0 T size l.length (l.flatMap enc))) (he : ∀ x, (enc x).length = size) (hx2 : l[a]? = some e) (ho : o = a * size + b) (hb : b + j ≤ size) (hsp : splice (enc e) b vs = enc z) (hms : ms.set i (vec v0 T size (l.set a z).length ((l.set a z).flatMap enc)) = ms')
    (h : ∀ w', St c w' σ ms' → wpList P ops Q rest (mk n f) w') : wpList P ops Q (⟨none, .store ty x y, t, p, af, none⟩ :: rest) (mk n f) w := by
  subst hv ho
  have ha : a < l.length := lt_of_getq hx2
  refine o_store_vec hS hx hy hvs hs hl h1 hi ?_ (flat_set he hx2 hsp (by rw [hl]; exact hb)) ?_ h
  · have : (a + 1) * size ≤ l.length * size := Nat.mul_le_mul_right _ ha
    rw [Nat.add_mul, Nat.one_mul] at this; omega
  · rw [List.length_set] at hms; exact hms
end Go.Fl
end
/- Maps whose keys are of any kind that the model compares as it should, made by the call itself. Conditions: those in the statements. -/
section
namespace Go.Fl
open Go Go.RowKit
variable {P : Program} {ops : Array Oper} {Q : Exit → Act → World → Prop} {rest : List Oper} {n : Nat} {f : Fr} {w w' : World} {d : Nat} {t : TypeId} {p : String} {af : Array Edge}
variable {c : Cx} {σ : Hv} {ms ms' : List HObj} {κ : Type}
open Classical in
/-- The first entry at a key, and its place. -/
noncomputable def fidx (kenc : κ → Value) (k : κ) : List MapEntry → Nat → Option (Nat × Value)
  | [], _ => none
  | e :: es, i => if e.key = kenc k then some (i, e.val) else fidx kenc k es (i + 1)
noncomputable def lkK (kenc : κ → Value) (es : List MapEntry) (k : κ) : Option Value := (fidx kenc k es 0).map (·.2)
def KeysOf (kenc : κ → Value) (es : List MapEntry) : Prop := ∀ e ∈ es, ∃ k, e.key = kenc k
/-- Keys of this kind are found as they should be. -/
structure KeyOk (P : Program) (kt : TypeId) (kenc : κ → Value) : Prop where
  inj : ∀ a b, kenc a = kenc b → a = b
  check : ∀ (e : Bool) (k : κ) (w : World), (Instr.checkKey e 10000 kt (kenc k)).run P w = .ok () w
  find : ∀ (es : List MapEntry) (k : κ) (w : World), KeysOf kenc es → (Instr.findKey kt (kenc k) es).run P w = .ok (fidx kenc k es 0) w
  stays : ∀ (k : κ) (w : World), (Instr.keyThatStays (kenc k) (kenc k)).run P w = .ok (kenc k) w
def smapK (kenc : κ → Value) (b : Nat) (m : κ → Option Value) : HObj where
  foot := some b
  ok w := ∃ es clock, w.heap[b]? = some (.map es clock) ∧ KeysOf kenc es.toList ∧ (∀ k, lkK kenc es.toList k = m k) ∧ MBk es.toList clock
  stay w w' h hk := by
    obtain ⟨es, clock, h1, h2⟩ := hk
    exact ⟨es, clock, (h b rfl).trans h1, h2⟩
  lt w k hk hf := by
    cases hf
    obtain ⟨es, clock, h1, _⟩ := hk
    exact (Array.getElem?_eq_some_iff.1 h1).1
theorem fidx_spec (kenc : κ → Value) (k : κ) : ∀ (es : List MapEntry) (i : Nat), (fidx kenc k es i = none ∧ ∀ e ∈ es, e.key ≠ kenc k) ∨ ∃ j e, fidx kenc k es i = some (i + j, e.val) ∧ es[j]? = some e ∧ e.key = kenc k ∧ ∀ j' e', j' < j → es[j']? = some e' → e'.key ≠ kenc k
  | [], i => .inl ⟨rfl, by simp⟩
  | e :: es, i => by
    by_cases hk : e.key = kenc k
    · exact .inr ⟨0, e, by simp [fidx, hk], rfl, hk, fun j' e' h => by omega⟩
    · rcases fidx_spec kenc k es (i + 1) with ⟨h1, h2⟩ | ⟨j, e', h1, h2, h3, h4⟩
      · refine .inl ⟨by simp [fidx, hk, h1], fun x hx => ?_⟩
        rcases List.mem_cons.1 hx with rfl | hx
        · exact hk
        · exact h2 x hx
      · refine .inr ⟨j + 1, e', by simp [fidx, hk, h1]; omega, by simpa using h2, h3, fun j' x hj' hx => ?_⟩
        cases j' with
        | zero => simp at hx; subst hx; exact hk
        | succ j' => exact h4 j' x (by omega) (by simpa using hx)
theorem lkK_iff {kenc : κ → Value} {es : List MapEntry} (hn : (es.map (·.key)).Nodup) (k : κ) (v : Value) : lkK kenc es k = some v ↔ ∃ e ∈ es, e.key = kenc k ∧ e.val = v := by
  unfold lkK
  rcases fidx_spec kenc k es 0 with ⟨h1, h2⟩ | ⟨j, e, h1, h2, h3, _⟩
  · rw [h1]
    simp only [Option.map_none, reduceCtorEq, false_iff]
    rintro ⟨e, he, hk, _⟩
    exact h2 e he hk
  · rw [h1]
    simp only [Option.map_some, Option.some.injEq]
    constructor
    · rintro rfl; exact ⟨e, List.mem_of_getElem? h2, h3, rfl⟩
    · rintro ⟨e', he', hk', rfl⟩
      rw [entry_eq_of_key' hn (List.mem_of_getElem? h2) he' (h3.trans hk'.symm)]
theorem lkK_none {kenc : κ → Value} {es : List MapEntry} (k : κ) : lkK kenc es k = none ↔ ∀ e ∈ es, e.key ≠ kenc k := by
  unfold lkK
  rcases fidx_spec kenc k es 0 with ⟨h1, h2⟩ | ⟨j, e, h1, h2, h3, _⟩
  · rw [h1]; simpa using h2
  · rw [h1]
    simp only [Option.map_some, reduceCtorEq, false_iff]
    exact fun h => h e (List.mem_of_getElem? h2) h3
theorem o_kmake {ty : TypeId} (kenc : κ → Value) (hS : St c w σ ms)
    (h : ∀ b w', St c w' σ (smapK kenc b (fun _ => none) :: ms) → wpList P ops Q rest (mk n (upd f d (.map (some b)))) w') : wpList P ops Q (⟨some d, .makeMap ty none, t, p, af, none⟩ :: rest) (mk n f) w := by
  refine o_val rfl rfl (v := .map (some w.heap.size)) (w' := w.alloc (.map #[] 0)) ?_ ?_
  · simp [execOp, Instr.makeMap]
  · refine h _ _ (hS.add (alloc_keeps w _) ⟨#[], 0, ?_, by simp [KeysOf], fun k => rfl, by simp [MBk]⟩ (by rintro k ⟨⟩; exact Nat.le_refl _))
    exact heap_alloc_new _ _
theorem run_lookK {kenc : κ → Value} {ty kt et : TypeId} {b : Nat} {m : κ → Option Value} {k : κ} {z : Value} (K : KeyOk P kt kenc) (hu : P.underlying ty = some (.map kt et)) (hz : ∀ w, (zeroValue et).run P w = .ok z w) (ho : (smapK kenc b m).ok w) (cok : Bool) :
    (Instr.lookup ty (.map (some b)) (kenc k) cok).run P w = .ok (if cok then .tuple #[(m k).getD z, .bool (m k).isSome] else (m k).getD z) w := by
  obtain ⟨es, clock, h1, h2, h3, _⟩ := ho
  have hf := K.find es.toList k w h2
  have hm := h3 k
  unfold lkK at hm
  unfold Instr.lookup
  rcases hq : fidx kenc k es.toList 0 with _ | ⟨i, v⟩
  · rw [hq] at hf hm
    have hm' : m k = none := hm.symm
    cases cok <;> simp [Sem.run_bind, run_underlying hu, MapKept.run_getObj_map h1, K.check, hf, hz, hm']
  · rw [hq] at hf hm
    have hm' : m k = some v := hm.symm
    cases cok <;> simp [Sem.run_bind, run_underlying hu, MapKept.run_getObj_map h1, K.check, hf, hm']
theorem MBk.pushK {es : List MapEntry} {clock : Nat} (h : MBk es clock) {kv : Value} (hn : ∀ e ∈ es, e.key ≠ kv) (v : Value) : MBk (es ++ [{ key := kv, val := v, born := clock }]) (clock + 1) := by
  refine ⟨?_, ?_, ?_⟩
  · rw [List.map_append, List.map_singleton]
    refine List.nodup_append.2 ⟨h.1, by simp, fun a ha b hb => ?_⟩
    obtain ⟨e, he, rfl⟩ := List.mem_map.1 ha
    rw [List.mem_singleton.1 hb]
    exact hn e he
  · rw [List.map_append, List.map_singleton]
    refine List.nodup_append.2 ⟨h.2.1, by simp, fun a ha b hb => ?_⟩
    rw [List.mem_singleton.1 hb]
    exact Nat.ne_of_lt (h.2.2 a ha)
  · intro x hx
    rw [List.map_append, List.map_singleton] at hx
    rcases List.mem_append.1 hx with hx | hx
    · exact Nat.lt_succ_of_lt (h.2.2 x hx)
    · rw [List.mem_singleton.1 hx]; exact Nat.lt_succ_self _
open Classical in
theorem run_putK {kenc : κ → Value} {ty kt et : TypeId} {b : Nat} {m : κ → Option Value} {k : κ} {v : Value} (K : KeyOk P kt kenc) (hu : P.underlying ty = some (.map kt et)) (ho : (smapK kenc b m).ok w) :
    ∃ w', (Instr.mapUpdate ty (.map (some b)) (kenc k) v).run P w = .ok () w' ∧ Keeps [b] w w' ∧ (smapK kenc b (fun k' => if k' = k then some v else m k')).ok w' := by
  obtain ⟨es, clock, h1, h2, h3, h4⟩ := ho
  have hlt : b < w.heap.size := (Array.getElem?_eq_some_iff.1 h1).1
  have hf := K.find es.toList k w h2
  have hkeep : ∀ o : Obj, Keeps [b] w { w with heap := w.heap.setIfInBounds b o } := fun o =>
    ⟨rfl, rfl, rfl, by simp, fun j hj hm => by
      show (w.heap.setIfInBounds b o)[j]? = _
      rw [Array.getElem?_setIfInBounds, if_neg (by intro e; exact hm (by simp [e]))]⟩
  have hget : ∀ o : Obj, ({ w with heap := w.heap.setIfInBounds b o } : World).heap[b]? = some o := fun o => by
    show (w.heap.setIfInBounds b o)[b]? = _
    rw [Array.getElem?_setIfInBounds, if_pos rfl, if_pos hlt]
  rcases fidx_spec kenc k es.toList 0 with ⟨hq, hno⟩ | ⟨j, e, hq, he, hek, _⟩
  · rw [hq] at hf
    have hMB := h4.pushK hno v
    refine ⟨_, ?_, hkeep (.map (es.push { key := kenc k, val := v, born := clock }) (clock + 1)), ⟨_, _, hget _, ?_, fun k' => ?_, by rw [Array.toList_push]; exact hMB⟩⟩
    · unfold Instr.mapUpdate
      simp [Sem.run_bind, run_underlying hu, MapKept.run_getObj_map h1, K.check, hf, MapKept.run_setObj_map _ h1]
    · intro e he
      simp only [Array.toList_push, List.mem_append, List.mem_singleton] at he
      rcases he with he | rfl
      · exact h2 e he
      · exact ⟨k, rfl⟩
    · rw [Array.toList_push]
      show _ = if k' = k then some v else m k'
      by_cases hk : k' = k
      · subst hk
        rw [if_pos rfl]
        exact (lkK_iff hMB.1 k' v).2 ⟨{ key := kenc k', val := v, born := clock }, by simp, rfl, rfl⟩
      · rw [if_neg hk, ← h3]
        rcases hr : lkK kenc es.toList k' with _ | u
        · refine (lkK_none k').2 fun e he => ?_
          rcases List.mem_append.1 he with he | he
          · exact (lkK_none k').1 hr e he
          · rw [List.mem_singleton.1 he]; exact fun hh => hk (K.inj _ _ hh).symm
        · obtain ⟨e, he, h5, h6⟩ := (lkK_iff h4.1 k' u).1 hr
          exact (lkK_iff hMB.1 k' u).2 ⟨e, by simp [he], h5, h6⟩
  · rw [hq, Nat.zero_add] at hf
    have hkt : ∀ w, (Instr.keyThatStays (((es[j]?).map (·.key)).getD (kenc k)) (kenc k)).run P w = .ok (kenc k) w := fun w => by
      have : es[j]? = some e := by rw [← he]; simp
      rw [this]
      simp only [Option.map_some, Option.getD_some, hek]
      exact K.stays k w
    have m1 := modify_map (es := es.toList) (j := j) (·.key) (fun e : MapEntry => { e with key := kenc k, val := v }) (fun e' he' => by rw [he] at he'; cases he'; exact hek.symm)
    have m2 := modify_map (es := es.toList) (j := j) (·.born) (fun e : MapEntry => { e with key := kenc k, val := v }) (fun _ _ => rfl)
    have hMB : MBk (es.modify j fun e => { e with key := kenc k, val := v }).toList clock := by
      rw [Array.toList_modify]
      exact ⟨by rw [m1]; exact h4.1, by rw [m2]; exact h4.2.1, by rw [m2]; exact h4.2.2⟩
    have hmem : ∀ e', e' ∈ (es.modify j fun e => { e with key := kenc k, val := v }).toList ↔ (e' ∈ es.toList ∧ e'.key ≠ kenc k) ∨ e' = { e with key := kenc k, val := v } := by
      intro e'
      rw [Array.toList_modify, List.mem_iff_getElem?]
      constructor
      · rintro ⟨q, hq⟩
        rw [List.getElem?_modify] at hq
        simp only [Option.map_eq_map, Option.map_eq_some_iff] at hq
        obtain ⟨x, hx, rfl⟩ := hq
        split
        · rename_i hjq
          subst hjq
          rw [he] at hx; cases hx
          exact .inr rfl
        · rename_i hjq
          refine .inl ⟨List.mem_of_getElem? hx, fun hxk => hjq ?_⟩
          obtain ⟨a1, b1⟩ := List.getElem?_eq_some_iff.1 he
          obtain ⟨a2, b2⟩ := List.getElem?_eq_some_iff.1 hx
          have hp := List.pairwise_iff_getElem.1 h4.1
          rcases Nat.lt_trichotomy j q with h | h | h
          · have h5 := hp j q (by simpa using a1) (by simpa using a2) h
            rw [List.getElem_map, List.getElem_map, b1, b2, hek, hxk] at h5
            exact absurd rfl h5
          · exact h
          · have h5 := hp q j (by simpa using a2) (by simpa using a1) h
            rw [List.getElem_map, List.getElem_map, b1, b2, hek, hxk] at h5
            exact absurd rfl h5
      · rintro (⟨hx, hne⟩ | rfl)
        · obtain ⟨q, hq⟩ := List.mem_iff_getElem?.1 hx
          refine ⟨q, ?_⟩
          rw [List.getElem?_modify, hq]
          simp only [Option.map_eq_map, Option.map_some, Option.some.injEq]
          rw [if_neg]
          intro hjq; subst hjq
          rw [he] at hq; cases hq; exact hne hek
        · refine ⟨j, ?_⟩
          rw [List.getElem?_modify, he]; simp
    refine ⟨_, ?_, hkeep (.map (es.modify j fun e => { e with key := kenc k, val := v }) clock), ⟨_, _, hget _, ?_, fun k' => ?_, hMB⟩⟩
    · unfold Instr.mapUpdate
      simp [Sem.run_bind, run_underlying hu, MapKept.run_getObj_map h1, K.check, hf, hkt, MapKept.run_setObj_map _ h1]
    · intro e' he'
      rcases (hmem e').1 he' with ⟨h5, _⟩ | rfl
      · exact h2 e' h5
      · exact ⟨k, rfl⟩
    · show _ = if k' = k then some v else m k'
      by_cases hk : k' = k
      · subst hk
        rw [if_pos rfl]
        exact (lkK_iff hMB.1 k' v).2 ⟨_, (hmem _).2 (.inr rfl), rfl, rfl⟩
      · rw [if_neg hk, ← h3]
        rcases hr : lkK kenc es.toList k' with _ | u
        · refine (lkK_none k').2 fun e' he' => ?_
          rcases (hmem e').1 he' with ⟨h5, _⟩ | rfl
          · exact (lkK_none k').1 hr e' h5
          · exact fun hh => hk (K.inj _ _ hh).symm
        · obtain ⟨e', he', h5, h6⟩ := (lkK_iff h4.1 k' u).1 hr
          exact (lkK_iff hMB.1 k' u).2 ⟨e', (hmem e').2 (.inl ⟨he', fun hh => hk (K.inj _ _ (h5.symm.trans hh))⟩), h5, h6⟩
/-! By what the elements stand for. -/
def ekmap {α : Type} (kenc : κ → Value) (b : Nat) (enc : α → Value) (F : κ → Option α) : HObj := smapK kenc b (fun k => (F k).map enc)
theorem ekmap_put {α : Type} [DecidableEq κ] (kenc : κ → Value) (b : Nat) (enc : α → Value) (F : κ → Option α) (k : κ) (y : α) : smapK kenc b (fun k' => @ite _ (k' = k) (Classical.propDecidable _) (some (enc y)) ((F k').map enc)) = ekmap kenc b enc (put F k y) := by
  unfold ekmap
  congr 1
  funext k'
  unfold put
  by_cases h : k' = k <;> simp [h]
theorem o_ekmake {α : Type} {ty : TypeId} (kenc : κ → Value) (enc : α → Value) (hS : St c w σ ms)
    (h : ∀ b w', St c w' σ (ekmap kenc b enc (fun _ => none) :: ms) → wpList P ops Q rest (mk n (upd f d (.map (some b)))) w') : wpList P ops Q (⟨some d, .makeMap ty none, t, p, af, none⟩ :: rest) (mk n f) w :=
  o_kmake kenc hS fun b w' h' => h b w' h'
theorem o_eklook {α : Type} {kenc : κ → Value} {enc : α → Value} {F : κ → Option α} {ty kt et : TypeId} {x y : Operand} {b i : Nat} {k : κ} {z v : Value} (hS : St c w σ ms) (hx : ev n f x = .map (some b)) (hy : ev n f y = kenc k) (hi : ms[i]? = some (ekmap kenc b enc F))
    (hu : P.underlying ty = some (.map kt et)) (K : KeyOk P kt kenc) (hz : ∀ w, (zeroValue et).run P w = .ok z w) (hv : ((F k).map enc).getD z = v)
    (h : wpList P ops Q rest (mk n (upd f d v)) w) : wpList P ops Q (⟨some d, .lookup ty x y false, t, p, af, none⟩ :: rest) (mk n f) w :=
  o_val rfl rfl (by subst hv; simp only [execOp, hx, hy, Sem.run_bind, run_lookK K hu hz (hS.get hi) false, Result.andThen_ok]; rfl) h
theorem o_eklook_ok {α : Type} {kenc : κ → Value} {enc : α → Value} {F : κ → Option α} {ty kt et : TypeId} {x y : Operand} {b i : Nat} {k : κ} {z v : Value} {r : Bool} (hS : St c w σ ms) (hx : ev n f x = .map (some b)) (hy : ev n f y = kenc k) (hi : ms[i]? = some (ekmap kenc b enc F))
    (hu : P.underlying ty = some (.map kt et)) (K : KeyOk P kt kenc) (hz : ∀ w, (zeroValue et).run P w = .ok z w) (hv : ((F k).map enc).getD z = v) (hr : (F k).isSome = r)
    (h : wpList P ops Q rest (mk n (upd f d (.tuple #[v, .bool r]))) w) : wpList P ops Q (⟨some d, .lookup ty x y true, t, p, af, none⟩ :: rest) (mk n f) w :=
  o_val rfl rfl (by subst hv; subst hr; simp only [execOp, hx, hy, Sem.run_bind, run_lookK K hu hz (hS.get hi) true, Result.andThen_ok, Option.isSome_map]; rfl) h
theorem o_ekput {α : Type} [DecidableEq κ] {kenc : κ → Value} {enc : α → Value} {F : κ → Option α} {y0 : α} {ty kt et : TypeId} {x y u : Operand} {b i : Nat} {k : κ} (hS : St c w σ ms) (hx : ev n f x = .map (some b)) (hy : ev n f y = kenc k) (hv : ev n f u = enc y0) (hi : ms[i]? = some (ekmap kenc b enc F))
    (hu : P.underlying ty = some (.map kt et)) (K : KeyOk P kt kenc) (hms : ms.set i (ekmap kenc b enc (put F k y0)) = ms')
    (h : ∀ w', St c w' σ ms' → wpList P ops Q rest (mk n f) w') : wpList P ops Q (⟨none, .mapUpdate ty x y u, t, p, af, none⟩ :: rest) (mk n f) w := by
  obtain ⟨w', hr, hkp, ho⟩ := run_putK (k := k) (v := ev n f u) K hu (hS.get hi)
  rw [hv] at ho hr
  rw [ekmap_put] at ho
  refine o_skip rfl rfl (by simp only [execOp, hx, hy, hv, Sem.run_bind, hr, Result.andThen_ok]; rfl) (h _ (hS.step hi hkp ho (by rintro k ⟨⟩; exact .inl rfl) hms hS.view.none_of_ge))
/-- Whole numbers as keys. -/
theorem keyOk_int {kt : TypeId} {q : IntKind} (hk : P.underlying kt = some (.int q)) : KeyOk P kt (fun x : Int => .int q x) where
  inj a b h := by simpa using h
  check e k w := by unfold Instr.checkKey; simp [Sem.run_bind, run_underlying hk]
  find es k w h := by
    have key : ∀ (es : List MapEntry) (i : Nat), KeysOf (fun x : Int => Value.int q x) es → Instr.findNow (.int q) (.int q k) es i = some (fidx (fun x : Int => Value.int q x) k es i) := by
      intro es
      induction es with
      | nil => intro i _; rfl
      | cons e es ih =>
        intro i h
        obtain ⟨a, ha⟩ := h e (by simp)
        have ih' := ih (i + 1) fun x hx => h x (by simp [hx])
        by_cases hka : k = a
        · subst hka; simp [Instr.findNow, ha, Instr.sameNow, fidx]
        · have hak : ¬ a = k := fun e => hka e.symm
          have hb : (k == a) = false := by simp [hka]
          simp [Instr.findNow, ha, Instr.sameNow, fidx, hb, hak, ih']
    unfold Instr.findKey
    simp [Sem.run_bind, run_underlying hk, key es 0 h]
  stays k w := by unfold Instr.keyThatStays; simp [Instr.sameBits]
/-! A range over a map that is written no more. -/
/-- An iterator of the call's own: which keys have come, and which one came last. -/
def itrK (kenc : κ → Value) (r b : Nat) (es : Array MapEntry) (clock : Nat) (done : List κ) (cur : Option (κ × Value)) : HObj where
  foot := some r
  ok w := ∃ seen, w.heap[r]? = some (.mapIter (some b) clock seen clock) ∧ (∀ e ∈ es.toList, e.born ∈ seen.toList ↔ ∃ k ∈ done, e.key = kenc k) ∧
    ∀ kv, cur = some kv → ∃ (s0 : Array Nat) (e : MapEntry), seen = s0.push e.born ∧ e ∈ es.toList ∧ e.key = kenc kv.1 ∧ e.val = kv.2
  stay w w' h hk := by
    obtain ⟨seen, h1, h2⟩ := hk
    exact ⟨seen, (h r rfl).trans h1, h2⟩
  lt w k hk hf := by
    cases hf
    obtain ⟨seen, h1, _⟩ := hk
    exact (Array.getElem?_eq_some_iff.1 h1).1
theorem run_nextK {kenc : κ → Value} {ty r b clock : Nat} {es : Array MapEntry} {done : List κ} {cur : Option (κ × Value)} (hi : (itrK kenc r b es clock done cur).ok w) (hb : w.heap[b]? = some (.map es clock)) (hK : KeysOf kenc es.toList) (hM : MBk es.toList clock) :
    ((∀ k v, lkK kenc es.toList k = some v → ∃ k' ∈ done, kenc k = kenc k') ∧ (Instr.next (.pointer (some ⟨r, 0, none⟩)) false ty).run P w = .ok (.tuple #[.bool false]) w) ∨
    ∃ k v w', lkK kenc es.toList k = some v ∧ k ∉ done ∧ (Instr.next (.pointer (some ⟨r, 0, none⟩)) false ty).run P w = .ok (.tuple #[.bool true, kenc k, v]) w' ∧ Keeps [r] w w' ∧ (itrK kenc r b es clock (k :: done) (some (k, v))).ok w' := by
  obtain ⟨seen, k1, k2, k3⟩ := hi
  have hold : ∀ x ∈ es.toList, x.born < clock := fun x hx => hM.2.2 _ (List.mem_map.2 ⟨x, hx, rfl⟩)
  have hmem : ∀ e, e ∈ (leftOf es seen).toList ↔ e ∈ es.toList ∧ e.born ∉ seen.toList := by intro e; simp [leftOf]
  rcases run_next_at (P := P) w ty r b clock clock seen es clock k1 hb hold (Nat.le_refl _) with ⟨hz, hr⟩ | ⟨e, he, w1, hw, hr⟩
  · refine .inl ⟨fun k v hk => ?_, hr⟩
    obtain ⟨e, he, hek, _⟩ := (lkK_iff hM.1 k v).1 hk
    have hin : e.born ∈ seen.toList := by
      rcases Classical.em (e.born ∈ seen.toList) with hh | hh
      · exact hh
      · exfalso
        have := (hmem e).2 ⟨he, hh⟩
        rw [Array.eq_empty_of_size_eq_zero hz] at this
        simp at this
    obtain ⟨k', hk', e'⟩ := (k2 e he).1 hin
    exact ⟨k', hk', hek.symm.trans e'⟩
  · obtain ⟨hes, hns⟩ := (hmem e).1 he
    obtain ⟨k, hk⟩ := hK e hes
    have hlt : r < w.heap.size := (Array.getElem?_eq_some_iff.1 k1).1
    have hheap : w1.heap = w.heap := by rcases hw with rfl | rfl <;> rfl
    rw [hk] at hr
    refine .inr ⟨k, e.val, _, (lkK_iff hM.1 k e.val).2 ⟨e, hes, hk, rfl⟩, fun hd => hns ((k2 e hes).2 ⟨k, hd, hk⟩), hr, ⟨?_, ?_, ?_, ?_, fun j hj hm => ?_⟩, ⟨seen.push e.born, ?_, fun e' he' => ?_, fun kv hkv => ?_⟩⟩
    · rcases hw with rfl | rfl <;> rfl
    · rcases hw with rfl | rfl <;> rfl
    · rcases hw with rfl | rfl <;> rfl
    · simp [ChangeMaps.setBlock, hheap]
    · show (w1.heap.setIfInBounds r _)[j]? = _
      rw [Array.getElem?_setIfInBounds, if_neg (by intro e; exact hm (by simp [e])), hheap]
    · show (w1.heap.setIfInBounds r _)[r]? = _
      rw [Array.getElem?_setIfInBounds, if_pos rfl, hheap, if_pos hlt]
    · rw [Array.toList_push, List.mem_append, k2 e' he', List.mem_singleton]
      constructor
      · rintro (⟨q, h1, h2⟩ | hb)
        · exact ⟨q, by simp [h1], h2⟩
        · have h5 := find_born e es.toList hM.2.1 hes
          have h6 := find_born e' es.toList hM.2.1 he'
          rw [hb, h5] at h6
          cases h6
          exact ⟨k, by simp, hk⟩
      · rintro ⟨q, h1, h2⟩
        rcases List.mem_cons.1 h1 with rfl | h1
        · right
          exact congrArg MapEntry.born (entry_eq_of_key' hM.1 he' hes (h2.trans hk.symm))
        · exact .inl ⟨q, h1, h2⟩
    · cases hkv
      exact ⟨seen, e, rfl, hes, hk, rfl⟩
/-- The keys of a map. -/
theorem keysK {kenc : κ → Value} {es : List MapEntry} (hK : KeysOf kenc es) (hM : (es.map (·.key)).Nodup) (hinj : ∀ a b, kenc a = kenc b → a = b) : ∃ ks : List κ, ks.Nodup ∧ ∀ k, k ∈ ks ↔ (lkK kenc es k).isSome = true := by
  have hl : ∃ ks : List κ, es.map (·.key) = ks.map kenc := by
    clear hM
    induction es with
    | nil => exact ⟨[], rfl⟩
    | cons x xs ih =>
      obtain ⟨ks, hk⟩ := ih fun e he => hK e (by simp [he])
      obtain ⟨k, hx⟩ := hK x (by simp)
      exact ⟨k :: ks, by simp [hx, hk]⟩
  obtain ⟨ks, hks⟩ := hl
  refine ⟨ks, ?_, fun k => ?_⟩
  · have := hM
    rw [hks] at this
    exact (List.pairwise_map.1 this).imp fun hab e => hab (by rw [e])
  · rw [Option.isSome_iff_exists]
    constructor
    · intro hm
      have hmm : kenc k ∈ es.map (·.key) := by rw [hks]; exact List.mem_map.2 ⟨k, hm, rfl⟩
      obtain ⟨e, he, hek⟩ := List.mem_map.1 hmm
      exact ⟨e.val, (lkK_iff hM k e.val).2 ⟨e, he, hek, rfl⟩⟩
    · rintro ⟨v, hv⟩
      obtain ⟨e, he, hek, _⟩ := (lkK_iff hM k v).1 hv
      have hmm : e.key ∈ ks.map kenc := by rw [← hks]; exact List.mem_map.2 ⟨e, he, rfl⟩
      obtain ⟨k', hk', e'⟩ := List.mem_map.1 hmm
      rw [hek] at e'
      rw [← hinj _ _ e']; exact hk'
end Go.Fl
end
