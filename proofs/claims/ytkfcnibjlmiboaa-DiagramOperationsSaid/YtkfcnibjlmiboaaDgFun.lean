/- What the other functions of a store of diagrams do. Conditions: those in the statements. -/
import Derived.Test.YtkfcnibjlmiboaaDgStore
namespace Go.Dg5
open Go.Fl Go.Fx Go.Dg

/-- The ids that a diagram contains. -/
inductive Rch (ns : List Nd) : Int → Int → Prop
  | self (a : Int) : Rch ns a a
  | yes {a x : Int} : 0 ≤ a → Rch ns (nd ns a).2.1 x → Rch ns a x
  | no {a x : Int} : 0 ≤ a → Rch ns (nd ns a).2.2 x → Rch ns a x
theorem Rch.step {ns : List Nd} {a b c : Int} (h : Rch ns a b) (k : Rch ns b c) : Rch ns a c := by
  induction h with
  | self => exact k
  | yes h0 _ ih => exact .yes h0 (ih k)
  | no h0 _ ih => exact .no h0 (ih k)
theorem kids {ns : List Nd} (hN : Nod ns) {a : Int} (h : Ok ns a) (h0 : 0 ≤ a) : Ok ns (nd ns a).2.1 ∧ Ok ns (nd ns a).2.2 ∧ (nd ns a).2.1 < a ∧ (nd ns a).2.2 < a := by
  have h2 := h.2
  obtain ⟨_, _, a1, a2, a3, a4, _⟩ := hN.nod a h0 h.2
  exact ⟨⟨a1, by omega⟩, ⟨a3, by omega⟩, a2, a4⟩
theorem Rch.ok {ns : List Nd} (hN : Nod ns) {a x : Int} (h : Rch ns a x) : Ok ns a → Ok ns x := by
  induction h with
  | self => exact id
  | yes h0 _ ih => exact fun h => ih (kids hN h h0).1
  | no h0 _ ih => exact fun h => ih (kids hN h h0).2.1
/-- A set of ids, by a map. -/
def Tr (F : Int → Option Bool) : Prop := ∀ x, F x = none ∨ F x = some true
theorem Tr.get {F : Int → Option Bool} (h : Tr F) {x : Int} : (F x).getD false = true ↔ (F x).isSome = true := by
  rcases h x with e | e <;> simp [e]
theorem Tr.nil : Tr fun _ => none := fun _ => .inl rfl
theorem Tr.put {F : Int → Option Bool} (h : Tr F) (x : Int) : Tr (put F x true) := fun y => by
  unfold Fl.put
  split
  · exact .inr rfl
  · exact h y
theorem put_some {F : Int → Option Bool} {x y : Int} : (put F x true y).isSome = true ↔ y = x ∨ (F y).isSome = true := by
  unfold Fl.put
  split
  · rename_i h; simp [h]
  · rename_i h; simp [h]
theorem Rch.sub {ns : List Nd} {F : Int → Option Bool} {id x : Int} (h : Rch ns id x) (i : (F id).isSome = true) (c : ∀ x, (F x).isSome = true → 0 ≤ x → (F (nd ns x).2.1).isSome = true ∧ (F (nd ns x).2.2).isSome = true) : (F x).isSome = true := by
  induction h with
  | self => exact i
  | yes h0 _ ih => exact ih (c _ i h0).1
  | no h0 _ ih => exact ih (c _ i h0).2
def Rc (ns : List Nd) (id : Int) (F : Int → Option Bool) : Prop := Tr F ∧ ∀ x, (F x).isSome = true ↔ Rch ns id x
/-- The program's walk. -/
theorem preach_ok {ns : List Nd} {ids : Nd → Option Int} {full : Bool} {id : Int} {K : (Int → Option Bool) → List Nd → (Nd → Option Int) → Bool → Prop} (hN : Nod ns) (hid : Ok ns id) (h : ∀ F, Rc ns id F → K F ns ids full) :
    P_preach ns ids full id K := by
  unfold P_preach
  refine pvalid_ok (Cnd.yes (decide_eq_true hid) ?_)
  intro X hX
  have key : ∀ (k : Nat) (id : Int) (n : Nat) (F : Int → Option Bool) (K : (Int → Option Bool) × Unit → Prop), id < k → Ok ns id → Tr F →
      (∀ F', Tr F' → (∀ x, (F x).isSome = true → (F' x).isSome = true) → (F' id).isSome = true → (∀ x, (F' x).isSome = true → (F x).isSome = true ∨ Rch ns id x) →
        (∀ x, (F' x).isSome = true → (F x).isSome = true ∨ (0 ≤ x → (F' (nd ns x).2.1).isSome = true ∧ (F' (nd ns x).2.2).isSome = true)) → K (F', ())) → X n (id, F, ()) K := by
    intro k
    induction k with
    | zero =>
      intro id n F K hk hid hF hK
      refine hX _ _ _ ⟨fun hs => hK F hF (fun _ h => h) ((hF.get).1 hs) (fun x h => .inl h) fun x h => .inl h, fun hs => Cnd.no (show ¬ 0 ≤ id by omega) ?_⟩
      refine hK _ (hF.put id) (fun x h => put_some.2 (.inr h)) (put_some.2 (.inl rfl)) (fun x h => ?_) fun x h => ?_
      · rcases put_some.1 h with rfl | h
        · exact .inr (.self _)
        · exact .inl h
      · rcases put_some.1 h with rfl | h
        · exact .inr fun h0 => by omega
        · exact .inl h
    | succ k ih =>
      intro id n F K hk hid hF hK
      refine hX _ _ _ ⟨fun hs => hK F hF (fun _ h => h) ((hF.get).1 hs) (fun x h => .inl h) fun x h => .inl h, fun hs => ⟨fun h0 => ?_, fun h0 => ?_⟩⟩
      · have h0 : 0 ≤ id := h0
        obtain ⟨k1, k2, k3, k4⟩ := kids hN hid h0
        refine ⟨⟨h0, hid.2⟩, fun y hy => ?_⟩
        have ey : nd ns id = y := nd_get hy
        refine ih _ _ _ _ (by rw [← ey]; omega) (by rw [← ey]; exact k1) (hF.put id) fun F1 t1 s1 i1 r1 c1 => ⟨⟨h0, hid.2⟩, fun z hz => ?_⟩
        have hz : ns[id.toNat]? = some z := hz
        rw [hy] at hz
        cases hz
        refine ih _ _ _ _ (by rw [← ey]; omega) (by rw [← ey]; exact k2) t1 fun F2 t2 s2 i2 r2 c2 => ?_
        rw [← ey] at i1 r1 i2 r2
        refine hK F2 t2 (fun x h => s2 x (s1 x (put_some.2 (.inr h)))) (s2 _ (s1 _ (put_some.2 (.inl rfl)))) (fun x h => ?_) fun x h => ?_
        · rcases r2 x h with h | h
          · rcases r1 x h with h | h
            · rcases put_some.1 h with rfl | h
              · exact .inr (.self _)
              · exact .inl h
            · exact .inr (.yes h0 h)
          · exact .inr (.no h0 h)
        · rcases c2 x h with h | h
          · rcases c1 x h with h | h
            · rcases put_some.1 h with rfl | h
              · exact .inr fun _ => ⟨s2 _ i1, i2⟩
              · exact .inl h
            · exact .inr fun hx => ⟨s2 _ (h hx).1, s2 _ (h hx).2⟩
          · exact .inr h
      · refine hK _ (hF.put id) (fun x h => put_some.2 (.inr h)) (put_some.2 (.inl rfl)) (fun x h => ?_) fun x h => ?_
        · rcases put_some.1 h with rfl | h
          · exact .inr (.self _)
          · exact .inl h
        · rcases put_some.1 h with rfl | h
          · exact .inr fun h1 => absurd h1 h0
          · exact .inl h
  refine key (id.toNat + 1) id _ _ _ (by omega) hid Tr.nil fun F t s i r c => h F ⟨t, fun x => ⟨fun hx => ?_, fun hx => ?_⟩⟩
  · rcases r x hx with h | h
    · cases h
    · exact h
  · exact hx.sub i fun x hx => (c x hx).resolve_left (by simp)
theorem preach_bad {ns : List Nd} {ids : Nd → Option Int} {full : Bool} {id : Int} {K : (Int → Option Bool) → List Nd → (Nd → Option Int) → Bool → Prop} (hid : ¬ Ok ns id) (h : K (fun _ => none) ns ids full) : P_preach ns ids full id K := by
  unfold P_preach
  exact pvalid_ok (Cnd.no (by simpa using hid) h)
/-- How many ids have not come. -/
def univ (ns : List Nd) : List Int := (List.range (ns.length + 1001)).map fun (i : Nat) => (i : Int) - 1001
def left (ns : List Nd) (F : Int → Option Bool) : Nat := (univ ns).countP fun x => (F x).isNone
theorem mem_univ {ns : List Nd} {x : Int} (h : Ok ns x) : x ∈ univ ns := by
  obtain ⟨h1, h2⟩ := h
  exact List.mem_map.2 ⟨(x + 1001).toNat, List.mem_range.2 (by omega), by omega⟩
theorem count_put {l : List Int} {F : Int → Option Bool} {x : Int} (hx : x ∈ l) (hn : F x = none) : (l.countP fun y => (put F x true y).isNone) < l.countP fun y => (F y).isNone := by
  induction l with
  | nil => cases hx
  | cons a l ih =>
    have le : (l.countP fun y => (put F x true y).isNone) ≤ l.countP fun y => (F y).isNone := by
      refine List.countP_mono_left fun y _ h => ?_
      unfold Fl.put at h
      split at h
      · cases h
      · exact h
    rw [List.countP_cons, List.countP_cons]
    by_cases ha : a = x
    · subst ha
      simp only [Fl.put, if_true, Option.isNone_some, Bool.false_eq_true, if_false, hn, Option.isNone_none]
      simp only [Fl.put] at le
      omega
    · have := ih ((List.mem_cons.1 hx).resolve_left fun e => ha e.symm)
      have e : put F x true a = F a := by simp [Fl.put, ha]
      rw [e]
      omega
theorem left_put {ns : List Nd} {F : Int → Option Bool} {x : Int} (h : Ok ns x) (hn : F x = none) : left ns (put F x true) < left ns F := count_put (mem_univ h) hn
theorem left_le {ns : List Nd} {F : Int → Option Bool} : left ns F ≤ ns.length + 1001 := by
  have := List.countP_le_length (p := fun x => (F x).isNone) (l := univ ns)
  simpa [left, univ] using this
/-- The document's walk. -/
theorem rreach_ok {ns : List Nd} {ids : Nd → Option Int} {full : Bool} {id : Int} {K : (Int → Option Bool) → List Nd → (Nd → Option Int) → Bool → Prop} (hN : Nod ns) (hl : ns.length ≤ 4000) (hid : Ok ns id) (h : ∀ F, Rc ns id F → K F ns ids full) :
    P_rreach ns ids full id K := by
  unfold P_rreach
  refine Lp2.ind (fun todo F => Tr F ∧ (∀ x ∈ todo, Ok ns x ∧ Rch ns id x) ∧ (∀ x, (F x).isSome = true → Ok ns x ∧ Rch ns id x) ∧ ((F id).isSome = true ∨ id ∈ todo) ∧
    (∀ x, (F x).isSome = true → 0 ≤ x → ((F (nd ns x).2.1).isSome = true ∨ (nd ns x).2.1 ∈ todo) ∧ ((F (nd ns x).2.2).isSome = true ∨ (nd ns x).2.2 ∈ todo)) ∧ todo.length + 3 * left ns F ≤ 15004)
    (fun todo F => todo.length + 3 * left ns F) (fun todo F hI _ => ?_) ⟨Tr.nil, by simpa using ⟨hid, .self _⟩, by simp, .inr (by simp), by simp, by have := left_le (ns := ns) (F := fun _ => none); simp; omega⟩
  obtain ⟨i1, i2, i3, i4, i5, i6⟩ := hI
  refine ⟨fun hpos => fun _ => ⟨⟨by omega, by omega⟩, ⟨by omega, by omega⟩, fun y hy _ => ⟨⟨by omega, by omega⟩, ⟨by omega, by omega⟩, ?_⟩⟩, fun hpos => ?_⟩
  · have ht : ((todo.length : Int) - 1).toNat = todo.length - 1 := by omega
    rw [ht] at hy ⊢
    have hne : todo ≠ [] := fun e => by subst e; simp at hpos
    have hsp : todo = todo.take (todo.length - 1) ++ [y] := by
      have h1 : todo.getLast hne = y := by
        rw [List.getLast_eq_getElem]
        rw [List.getElem?_eq_getElem (by omega)] at hy
        exact Option.some.inj hy
      rw [← h1, ← List.dropLast_eq_take, List.dropLast_concat_getLast]
    generalize hA : todo.take (todo.length - 1) = A at hsp ⊢
    have hlen : todo.length = A.length + 1 := by rw [hsp]; simp
    obtain ⟨hy1, hy2⟩ := i2 y (by rw [hsp]; simp)
    have sub : ∀ x, x ∈ todo → x ∈ A ∨ x = y := fun x hx => by rw [hsp] at hx; simpa using hx
    refine ⟨fun hs => ⟨⟨i1, fun x hx => i2 x (by rw [hsp]; simp [hx]), i3, ?_, fun x hx h0 => ?_, by omega⟩, by omega⟩, fun hs => ?_⟩
    · have hs := (i1.get).1 hs
      rcases i4 with h | h
      · exact .inl h
      · rcases sub _ h with h | rfl
        · exact .inr h
        · exact .inl hs
    · have hs := (i1.get).1 hs
      obtain ⟨a, b⟩ := i5 x hx h0
      refine ⟨a.elim .inl fun h => ?_, b.elim .inl fun h => ?_⟩
      · rcases sub _ h with h | h
        · exact .inr h
        · exact .inl (by rw [h]; exact hs)
      · rcases sub _ h with h | h
        · exact .inr h
        · exact .inl (by rw [h]; exact hs)
    · have hn : F y = none := by
        rcases i1 y with e | e
        · exact e
        · rw [e] at hs; simp at hs
      have hlt := left_put hy1 hn
      refine ⟨fun h0 => ⟨⟨h0, hy1.2⟩, fun z hz => ⟨⟨h0, hy1.2⟩, fun z' hz' => ?_⟩⟩, fun h0 => ⟨⟨i1.put y, fun x hx => i2 x (by rw [hsp]; simp [hx]), fun x hx => ?_, ?_, fun x hx hx0 => ?_, by omega⟩, by omega⟩⟩
      · rw [hz] at hz'
        cases hz'
        have ez := nd_get hz
        obtain ⟨k1, k2, _⟩ := kids hN hy1 h0
        rw [ez] at k1 k2
        refine ⟨by unfold Sml; simp; omega, ⟨i1.put y, fun x hx => ?_, fun x hx => ?_, ?_, fun x hx hx0 => ?_, by simp; omega⟩, by simp; omega⟩
        · simp only [List.mem_append, List.mem_cons, List.not_mem_nil, or_false] at hx
          rcases hx with hx | rfl | rfl
          · exact i2 x (by rw [hsp]; simp [hx])
          · exact ⟨k1, hy2.step (.yes h0 (by rw [ez]; exact .self _))⟩
          · exact ⟨k2, hy2.step (.no h0 (by rw [ez]; exact .self _))⟩
        · rcases put_some.1 hx with rfl | hx
          · exact ⟨hy1, hy2⟩
          · exact i3 x hx
        · rcases i4 with h | h
          · exact .inl (put_some.2 (.inr h))
          · rcases sub _ h with h | rfl
            · exact .inr (by simp [h])
            · exact .inl (put_some.2 (.inl rfl))
        · have mv : ∀ q, (F q).isSome = true ∨ q ∈ todo → (put F y true q).isSome = true ∨ q ∈ A ++ [z.2.1, z.2.2] := fun q hq => by
            rcases hq with h | h
            · exact .inl (put_some.2 (.inr h))
            · rcases sub _ h with h | rfl
              · exact .inr (by simp [h])
              · exact .inl (put_some.2 (.inl rfl))
          rcases put_some.1 hx with rfl | hx
          · rw [ez]; exact ⟨.inr (by simp), .inr (by simp)⟩
          · obtain ⟨a, b⟩ := i5 x hx hx0
            exact ⟨mv _ a, mv _ b⟩
      · rcases put_some.1 hx with rfl | hx
        · exact ⟨hy1, hy2⟩
        · exact i3 x hx
      · rcases i4 with h | h
        · exact .inl (put_some.2 (.inr h))
        · rcases sub _ h with h | rfl
          · exact .inr h
          · exact .inl (put_some.2 (.inl rfl))
      · have mv : ∀ q, (F q).isSome = true ∨ q ∈ todo → (put F y true q).isSome = true ∨ q ∈ A := fun q hq => by
          rcases hq with h | h
          · exact .inl (put_some.2 (.inr h))
          · rcases sub _ h with h | rfl
            · exact .inr h
            · exact .inl (put_some.2 (.inl rfl))
        rcases put_some.1 hx with rfl | hx
        · exact absurd hx0 h0
        · obtain ⟨a, b⟩ := i5 x hx hx0
          exact ⟨mv _ a, mv _ b⟩
  · have hnil : todo = [] := List.eq_nil_of_length_eq_zero (by omega)
    subst hnil
    refine h F ⟨i1, fun x => ⟨fun hx => (i3 x hx).2, fun hx => ?_⟩⟩
    have i4 : (F id).isSome = true := i4.resolve_right (by simp)
    exact hx.sub i4 fun x hx h0 => ⟨(i5 x hx h0).1.resolve_right (by simp), (i5 x hx h0).2.resolve_right (by simp)⟩
theorem nodup_le {α : Type} [DecidableEq α] {l l' : List α} (h : l.Nodup) (hs : ∀ x ∈ l, x ∈ l') : l.length ≤ l'.length := by
  induction l generalizing l' with
  | nil => simp
  | cons a l ih =>
    rw [List.nodup_cons] at h
    have := ih (l' := l'.erase a) h.2 fun x hx => by
      have hne : x ≠ a := fun e => h.1 (e ▸ hx)
      exact (List.mem_erase_of_ne hne).2 (hs x (by simp [hx]))
    rw [List.length_erase_of_mem (hs a (by simp))] at this
    have hp := List.length_pos_of_mem (hs a (by simp))
    simp only [List.length_cons]
    omega
/-- The leaves of a diagram, ascending. -/
def Lvs (ns : List Nd) (id : Int) (l : List Int) : Prop := l.Pairwise (· < ·) ∧ ∀ n, n ∈ l ↔ Ok ns id ∧ 0 ≤ n ∧ Rch ns id (-1 - n)
theorem Lvs.one {ns : List Nd} {id : Int} {l l' : List Int} (h : Lvs ns id l) (h' : Lvs ns id l') : l = l' := by
  have key : ∀ (l l' : List Int), l.Pairwise (· < ·) → l'.Pairwise (· < ·) → (∀ n, n ∈ l ↔ n ∈ l') → l = l' := by
    intro l
    induction l with
    | nil =>
      intro l' _ _ h
      cases l' with
      | nil => rfl
      | cons a l' => exact absurd ((h a).2 (by simp)) (by simp)
    | cons a l ih =>
      intro l' hl hl' h
      cases l' with
      | nil => exact absurd ((h a).1 (by simp)) (by simp)
      | cons b l' =>
        rw [List.pairwise_cons] at hl hl'
        have hab : a = b := by
          rcases List.mem_cons.1 ((h a).1 (by simp)) with e | e
          · exact e
          · rcases List.mem_cons.1 ((h b).2 (by simp)) with e' | e'
            · exact e'.symm
            · have := hl.1 b e'
              have := hl'.1 a e
              omega
        subst hab
        rw [ih l' hl.2 hl'.2 fun n => ⟨fun hn => ?_, fun hn => ?_⟩]
        · rcases List.mem_cons.1 ((h n).1 (by simp [hn])) with e | e
          · have := hl.1 n hn; omega
          · exact e
        · rcases List.mem_cons.1 ((h n).2 (by simp [hn])) with e | e
          · have := hl'.1 n hn; omega
          · exact e
  exact key l l' h.1 h'.1 fun n => (h.2 n).trans (h'.2 n).symm
theorem pLeaves_ok {ns : List Nd} {ids : Nd → Option Int} {full : Bool} {id : Int} {K : List Int → List Nd → (Nd → Option Int) → Bool → Prop} (hN : Nod ns) (hl : ns.length ≤ 4000) (h : ∀ l, Lvs ns id l → K l ns ids full) : P_pLeaves ns ids full id K := by
  unfold P_pLeaves
  by_cases hid : Ok ns id
  · refine preach_ok hN hid fun F hF => ⟨fun ks hks => ?_, fun x hx => ?_, fun l h1 h2 => h l ⟨h1, fun n => by rw [h2, hF.2]; exact ⟨fun a => ⟨hid, a⟩, fun a => a.2⟩⟩⟩
    · have := nodup_le (l' := univ ns) hks.1 fun x hx => mem_univ (((hF.2 x).1 ((hks.2 x).1 hx)).ok hN hid)
      have e : (univ ns).length = ns.length + 1001 := by simp [univ]
      unfold Sml
      omega
    · have := ((hF.2 x).1 hx).ok hN hid
      have h1 := this.1
      have h2 := this.2
      constructor <;> omega
  · exact preach_bad hid ⟨fun ks hks => by
      have : ks = [] := List.eq_nil_iff_forall_not_mem.2 fun x hx => by have := (hks.2 x).1 hx; simp at this
      subst this; unfold Sml; simp, fun x hx => by simp at hx, fun l h1 h2 => h l ⟨h1, fun n => by rw [h2]; simp [hid]⟩⟩
theorem rLeaves_ok {ns : List Nd} {ids : Nd → Option Int} {full : Bool} {id : Int} {K : List Int → List Nd → (Nd → Option Int) → Bool → Prop} (hN : Nod ns) (hl : ns.length ≤ 4000) (h : ∀ l, Lvs ns id l → K l ns ids full) : P_rLeaves ns ids full id K := by
  unfold P_rLeaves
  by_cases hid : Ok ns id
  · refine ris_ok (Cnd.yes (decide_eq_true hid) (rreach_ok hN hl hid fun F hF => ?_))
    refine Lp2.ind (fun l n => 0 ≤ n ∧ n ≤ 1001 ∧ l.length ≤ n ∧ l.Pairwise (· < ·) ∧ ∀ x, x ∈ l ↔ 0 ≤ x ∧ x < n ∧ Rch ns id (-1 - x)) (fun _ n => (1001 - n).toNat) (fun l n hI => ?_) ⟨by omega, by omega, by simp, by simp, fun x => by simp; omega⟩
    obtain ⟨h0, h1, h2, h3, h4⟩ := hI
    refine ⟨fun hn => ⟨⟨by omega, by omega⟩, fun hs => ?_, fun hs => ?_⟩, fun hn => ?_⟩
    · have hs := (hF.2 _).1 ((hF.1.get).1 hs)
      refine ⟨by unfold Sml; simp; omega, ⟨by omega, by omega⟩, ⟨by omega, by omega, by simp; omega, ?_, fun x => ?_⟩, by omega⟩
      · rw [List.pairwise_append]
        exact ⟨h3, by simp, fun a ha b hb => by simp at hb; subst hb; exact ((h4 a).1 ha).2.1⟩
      · simp only [List.mem_append, List.mem_singleton, h4]
        constructor
        · rintro (⟨a, b, c⟩ | rfl)
          · exact ⟨a, by omega, c⟩
          · exact ⟨h0, by omega, hs⟩
        · rintro ⟨a, b, c⟩
          by_cases hx : x = n
          · exact .inr hx
          · exact .inl ⟨a, by omega, c⟩
    · have hs : ¬ Rch ns id (-1 - n) := fun hr => hs ((hF.1.get).2 ((hF.2 _).2 hr))
      refine ⟨⟨by omega, by omega⟩, ⟨by omega, by omega, by omega, h3, fun x => ?_⟩, by omega⟩
      rw [h4]
      constructor
      · rintro ⟨a, b, c⟩; exact ⟨a, by omega, c⟩
      · rintro ⟨a, b, c⟩
        refine ⟨a, ?_, c⟩
        by_cases hx : x = n
        · subst hx; exact absurd c hs
        · omega
    · refine h l ⟨h3, fun x => ?_⟩
      rw [h4]
      constructor
      · rintro ⟨a, _, c⟩; exact ⟨hid, a, c⟩
      · rintro ⟨_, a, c⟩
        have := (c.ok hN hid).1
        exact ⟨a, by omega, c⟩
  · exact ris_ok (Cnd.no (by simpa using hid) (h [] ⟨by simp, fun n => by simp [hid]⟩))
/-- A leaf is contained exactly if some truth values lead to it. -/
theorem leaf_iff {ns : List Nd} (hN : Nod ns) {id : Int} (hid : Ok ns id) (n : Int) (hn : 0 ≤ n) : Rch ns id (-1 - n) ↔ ∃ v, ev ns v id = n := by
  constructor
  · intro h
    generalize hx : -1 - n = x at h
    induction h with
    | self a => exact ⟨fun _ => true, by rw [ev_leaf (by omega)]; omega⟩
    | @yes a x h0 _ ih =>
      obtain ⟨v, hv⟩ := ih (kids hN hid h0).1 hx
      exact ⟨setB v (nd ns a).1 true, by rw [ev_yes hN h0 hid.2]; exact hv⟩
    | @no a x h0 _ ih =>
      obtain ⟨v, hv⟩ := ih (kids hN hid h0).2.1 hx
      exact ⟨setB v (nd ns a).1 false, by rw [ev_no hN h0 hid.2]; exact hv⟩
  · rintro ⟨v, hv⟩
    revert hv
    refine ind hN (p := fun id => ev ns v id = n → Rch ns id (-1 - n)) (fun id h1 h2 he => ?_) (fun id h1 h2 i1 i2 he => ?_) hid
    · rw [ev_leaf h2] at he
      rw [show -1 - n = id by omega]; exact .self _
    · rw [ev_node hN h1 h2] at he
      split at he
      · exact .yes h1 (i1 he)
      · exact .no h1 (i2 he)
theorem ev_nonneg {ns : List Nd} (hN : Nod ns) {id : Int} (hid : Ok ns id) (v : Int → Bool) : 0 ≤ ev ns v id := by
  refine ind hN (p := fun id => 0 ≤ ev ns v id) (fun id h1 h2 => ?_) (fun id h1 h2 i1 i2 => ?_) hid
  · rw [ev_leaf h2]; omega
  · rw [ev_node hN h1 h2]; split <;> assumption
theorem cond_iff {ns : List Nd} (hN : Nod ns) {id : Int} (hid : Ok ns id) {l : List Int} (hl : Lvs ns id l) : Cond ns id ↔ ∀ n ∈ l, n ≤ 1 := by
  constructor
  · intro h n hn
    obtain ⟨_, h0, hr⟩ := (hl.2 n).1 hn
    obtain ⟨v, hv⟩ := (leaf_iff hN hid n h0).1 hr
    have := h v
    omega
  · intro h v
    have h0 := ev_nonneg hN hid v
    have := h (ev ns v id) ((hl.2 _).2 ⟨hid, h0, (leaf_iff hN hid _ h0).2 ⟨v, rfl⟩⟩)
    omega
end Go.Dg5
