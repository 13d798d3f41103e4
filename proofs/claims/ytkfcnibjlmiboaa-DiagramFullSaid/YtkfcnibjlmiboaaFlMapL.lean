/- Maps of lists: what a map's keys lead to are lists of the call's own, or lists that are only read. Conditions: none; every rule speaks of any program. -/
import Derived.Test.YtkfcnibjlmiboaaFlLift
import Derived.Maps.RangeRun
namespace Go.Fl
open Go Go.RowKit
variable {P : Program} {Q : Exit → Act → World → Prop} {n : Nat} {f : Fr} {w w' : World} {σ τ : Hv} {c : Cx} {ms ms' : List HObj}
variable {ops : Array Oper} {rest : List Oper} {d : Nat} {t : TypeId} {p : String} {af : Array Edge}

/-- Keys, the slices at them, and what these hold. -/
abbrev EL (α : Type) := List (ByteArray × Value × List α)
def efind {α : Type} (es : EL α) (k : ByteArray) : Option (ByteArray × Value × List α) := es.find? (fun e => decide (e.1 = k))
def asl {α : Type} (es : EL α) : ByteArray → Option Value := fun k => (efind es k).map (·.2.1)
def elems {α : Type} (T s : Nat) (enc : α → List Value) (es : EL α) : List HObj := es.map fun e => vec e.2.1 T s e.2.2.length (e.2.2.flatMap enc)
def ELF {α : Type} (es : EL α) (F : ByteArray → Option (List α)) : Prop := (∀ k, F k = (efind es k).map (·.2.2)) ∧ ∀ e ∈ es, Sml e.2.2.length
def Lent {α : Type} (es es' : EL α) (k : ByteArray) : Prop := (∀ k', k' ≠ k → efind es' k' = efind es k') ∧ ∀ e ∈ es', e ∈ es
theorem ELF.nil {α : Type} : ELF ([] : EL α) (fun _ => none) := ⟨fun _ => rfl, by simp⟩
theorem Lent.refl {α : Type} (es : EL α) (k : ByteArray) : Lent es es k := ⟨fun _ _ => rfl, fun _ h => h⟩

theorem St.perm (h : St c w σ ms) (hp : ms.Perm ms') : St c w σ ms' :=
  ⟨h.keeps, h.view, h.sub, h.fresh, fun o ho => h.own o (hp.mem_iff.2 ho), hp.pairwise h.sep fun hab k hb ha => hab k ha hb,
    fun o ho => h.off o (hp.mem_iff.2 ho), fun o ho => h.new o (hp.mem_iff.2 ho)⟩

theorem find_split {α : Type} {es : EL α} {k : ByteArray} {e : ByteArray × Value × List α} (h : efind es k = some e) :
    ∃ a b, es = a ++ e :: b ∧ e.1 = k ∧ efind a k = none := by
  induction es with
  | nil => cases h
  | cons x xs ih =>
    by_cases hx : x.1 = k
    · have : x = e := by simpa [efind, List.find?_cons, hx] using h
      exact ⟨[], xs, by rw [this]; rfl, by rw [← this]; exact hx, rfl⟩
    · have h' : efind xs k = some e := by simpa [efind, List.find?_cons, hx] using h
      obtain ⟨a, b, h1, h2, h3⟩ := ih h'
      exact ⟨x :: a, b, by rw [h1]; rfl, h2, by simpa [efind, List.find?_cons, hx] using h3⟩

/-- The slice at a key is taken out of the map's store, to be grown. -/
theorem St.borrow {α : Type} {T s : Nat} {enc : α → List Value} {es : EL α} {F : ByteArray → Option (List α)} (h : St c w σ (ms ++ elems T s enc es)) (hF : ELF es F) (k : ByteArray) {v : Value}
    (hv : (asl es k).getD (.slice none 0 0) = v) : ∃ es', St c w σ (vec v T s ((F k).getD []).length (((F k).getD []).flatMap enc) :: (ms ++ elems T s enc es')) ∧ Lent es es' k ∧ Sml ((F k).getD []).length := by
  rcases he : efind es k with _ | e
  · have h1 : F k = none := by rw [hF.1 k, he]; rfl
    have h2 : v = .slice none 0 0 := by rw [← hv]; simp [asl, he]
    subst h2
    rw [h1]
    exact ⟨es, h.addNil T s, .refl es k, by simp [Sml]⟩
  · have h1 : F k = some e.2.2 := by rw [hF.1 k, he]; rfl
    have h2 : v = e.2.1 := by rw [← hv]; simp [asl, he]
    subst h2
    rw [h1]
    obtain ⟨a, b, rfl, hk, ha⟩ := find_split he
    refine ⟨a ++ b, h.perm ?_, ⟨fun k' hk' => ?_, fun x hx => ?_⟩, hF.2 e (by simp)⟩
    · simp only [elems, List.map_append, List.map_cons, Option.getD_some]
      rw [← List.append_assoc, ← List.append_assoc]
      exact List.perm_middle
    · have hne : ¬ e.1 = k' := fun hh => hk' (hh.symm.trans hk)
      simp [efind, List.find?_append, hne]
    · rcases List.mem_append.1 hx with hx | hx <;> simp [hx]

/-- What has grown is put at its key. -/
theorem St.giveback {α : Type} {T s : Nat} {enc : α → List Value} {es es' : EL α} {v : Value} {l : List α} {k : ByteArray} {i b : Nat}
    (h : St c w σ (vec v T s l.length (l.flatMap enc) :: (ms ++ elems T s enc es'))) (hL : Lent es es' k)
    (hi : ms[i]? = some (smap b (fun k' => if k' = k then some v else asl es k'))) (hms : ms.set i (smap b (asl ((k, v, l) :: es'))) = ms') : St c w σ (ms' ++ elems T s enc ((k, v, l) :: es')) := by
  subst hms
  have e1 : smap b (fun k' => if k' = k then some v else asl es k') = smap b (asl ((k, v, l) :: es')) := smap_congr fun k' => by
    by_cases hk : k' = k
    · subst hk; simp [asl, efind]
    · have hk' : ¬ k = k' := fun e => hk e.symm
      have := hL.1 k' hk
      unfold efind at this
      simp [asl, efind, hk, hk', this]
  have e2 : ms.set i (smap b (asl ((k, v, l) :: es'))) = ms := by
    rw [← e1]
    obtain ⟨hil, he⟩ := List.getElem?_eq_some_iff.1 hi
    rw [← he, List.set_getElem_self]
  rw [e2]
  refine h.perm ?_
  simp only [elems, List.map_cons]
  exact List.perm_middle.symm
theorem ELF.put {α : Type} {es es' : EL α} {F : ByteArray → Option (List α)} {v : Value} {l : List α} {k : ByteArray} (hF : ELF es F) (hL : Lent es es' k) (hl : Sml l.length) : ELF ((k, v, l) :: es') (put F k l) := by
  refine ⟨fun k' => ?_, fun e he => ?_⟩
  · by_cases hk : k' = k
    · subst hk; simp [Fl.put, efind]
    · have hk' : ¬ k = k' := fun e => hk e.symm
      have h1 := hL.1 k' hk
      have h2 := hF.1 k'
      unfold efind at h1 h2
      simp [Fl.put, efind, hk, hk', h1, h2]
  · rcases List.mem_cons.1 he with rfl | he
    · exact hl
    · exact hF.2 e (hL.2 e he)

/-- A map that is only read: what its elements stand for. -/
def ORel {β : Type} (R : Value → β → Prop) : Option Value → Option β → Prop
  | none, none => True
  | some v, some y => R v y
  | _, _ => False
def RMa {β : Type} (Z : Hv → Value → β → Prop) (σ : Hv) (b : Nat) (es : Array MapEntry) (clock : Nat) (F : ByteArray → Option β) : Prop :=
  σ b = some (.map es clock) ∧ StrKeys es.toList ∧ MBk es.toList clock ∧ ∀ k, ORel (Z σ) (lk es.toList k) (F k)
def RMp {β : Type} (Z : Hv → Value → β → Prop) (σ : Hv) (v : Value) (F : ByteArray → Option β) : Prop := ∃ b es clock, v = .map (some b) ∧ RMa Z σ b es clock F
def REv {β : Type} (enc : β → Value) (_ : Hv) (v : Value) (y : β) : Prop := v = enc y
theorem ORel.isSome {β : Type} {R : Value → β → Prop} {a : Option Value} {y : Option β} (h : ORel R a y) : a.isSome = y.isSome := by
  cases a <;> cases y <;> first | rfl | exact h.elim
theorem ORel.imp {β : Type} {R S : Value → β → Prop} {a : Option Value} {y : Option β} (h : ORel R a y) (hi : ∀ v y, R v y → S v y) : ORel S a y := by
  cases a <;> cases y <;> first | exact h.elim | exact trivial | exact hi _ _ h
theorem ORel.getD {β : Type} {R : Value → β → Prop} {a : Option Value} {y : Option β} (h : ORel R a y) {z : Value} {z0 : β} (hz : R z z0) : R (a.getD z) (y.getD z0) := by
  cases a <;> cases y <;> first | exact h.elim | exact hz | exact h
theorem RMp.shape {β : Type} {Z : Hv → Value → β → Prop} {v : Value} {F : ByteArray → Option β} (h : RMp Z σ v F) : ∃ b, v = .map (some b) := by
  obtain ⟨b, _, _, h1, _⟩ := h; exact ⟨b, h1⟩
theorem RMp.open {β : Type} {Z : Hv → Value → β → Prop} {b : Nat} {F : ByteArray → Option β} (h : RMp Z σ (.map (some b)) F) : ∃ es clock, RMa Z σ b es clock F := by
  obtain ⟨_, es, clock, h1, h2⟩ := h; cases h1; exact ⟨es, clock, h2⟩
theorem RMa.mono {β : Type} {Z : Hv → Value → β → Prop} {b clock : Nat} {es : Array MapEntry} {F : ByteArray → Option β} (hZ : ∀ v y, Z σ v y → Z τ v y) (hs : Sub σ τ) (h : RMa Z σ b es clock F) : RMa Z τ b es clock F :=
  ⟨hs _ _ h.1, h.2.1, h.2.2.1, fun k => (h.2.2.2 k).imp hZ⟩
theorem RMp.mono {β : Type} {Z : Hv → Value → β → Prop} {v : Value} {F : ByteArray → Option β} (hZ : ∀ v y, Z σ v y → Z τ v y) (hs : Sub σ τ) (h : RMp Z σ v F) : RMp Z τ v F := by
  obtain ⟨b, es, clock, h1, h2⟩ := h
  exact ⟨b, es, clock, h1, h2.mono hZ hs⟩
/-- What is at a key of a map that is only read. -/
def LkR (σ : Hv) (b : Nat) (k : ByteArray) (z v : Value) (r : Bool) : Prop := ∃ es clock, σ b = some (.map es clock) ∧ StrKeys es.toList ∧ (lk es.toList k).getD z = v ∧ (lk es.toList k).isSome = r
theorem RMp.at {β : Type} {Z : Hv → Value → β → Prop} {b : Nat} {F : ByteArray → Option β} {z : Value} {z0 : β} (hz : Z σ z z0) (h : RMp Z σ (.map (some b)) F) (k : ByteArray) : ∃ v, LkR σ b k z v (F k).isSome ∧ Z σ v ((F k).getD z0) := by
  obtain ⟨b', es, clock, h1, h2, h3, _, h4⟩ := h
  cases h1
  exact ⟨_, ⟨es, clock, h2, h3, rfl, (h4 k).isSome⟩, (h4 k).getD hz⟩
theorem run_lookR {ty kt et : TypeId} {b clock : Nat} {es : Array MapEntry} {k : ByteArray} {z : Value} (hb : w.heap[b]? = some (.map es clock)) (h2 : StrKeys es.toList) (hu : P.underlying ty = some (.map kt et)) (hk : P.underlying kt = some .string) (hz : ∀ w, (zeroValue et).run P w = .ok z w) (cok : Bool) :
    (Instr.lookup ty (.map (some b)) (.string k) cok).run P w = .ok (if cok then .tuple #[(lk es.toList k).getD z, .bool (lk es.toList k).isSome] else (lk es.toList k).getD z) w := by
  obtain ⟨r, hr, hd⟩ := find_str k es.toList 0 h2
  unfold Instr.lookup
  rcases hd with ⟨rfl, hm⟩ | ⟨j, v, rfl, hm, _⟩
  · cases cok <;> simp [Sem.run_bind, run_underlying hu, MapKept.run_getObj_map hb, checkKey_string hk, findKey_string hk hr, hz, hm]
  · cases cok <;> simp [Sem.run_bind, run_underlying hu, MapKept.run_getObj_map hb, checkKey_string hk, findKey_string hk hr, hm]
theorem o_lookR {ty kt et : TypeId} {x y : Operand} {b : Nat} {k : ByteArray} {z v : Value} {r : Bool} (hL : LkR τ b k z v r) (hV : View τ w) (hx : ev n f x = .map (some b)) (hy : ev n f y = .string k)
    (hu : P.underlying ty = some (.map kt et)) (hk : P.underlying kt = some .string) (hz : ∀ w, (zeroValue et).run P w = .ok z w)
    (h : wpList P ops Q rest (mk n (upd f d v)) w) : wpList P ops Q (⟨some d, .lookup ty x y false, t, p, af, none⟩ :: rest) (mk n f) w := by
  obtain ⟨es, clock, h1, h2, h3, h4⟩ := hL
  exact o_val rfl rfl (by subst h3; simp only [execOp, hx, hy, Sem.run_bind, run_lookR (hV _ _ h1) h2 hu hk hz false, Result.andThen_ok]; rfl) h
theorem o_lookR_ok {ty kt et : TypeId} {x y : Operand} {b : Nat} {k : ByteArray} {z v : Value} {r : Bool} (hL : LkR τ b k z v r) (hV : View τ w) (hx : ev n f x = .map (some b)) (hy : ev n f y = .string k)
    (hu : P.underlying ty = some (.map kt et)) (hk : P.underlying kt = some .string) (hz : ∀ w, (zeroValue et).run P w = .ok z w)
    (h : wpList P ops Q rest (mk n (upd f d (.tuple #[v, .bool r]))) w) : wpList P ops Q (⟨some d, .lookup ty x y true, t, p, af, none⟩ :: rest) (mk n f) w := by
  obtain ⟨es, clock, h1, h2, h3, h4⟩ := hL
  exact o_val rfl rfl (by subst h3; subst h4; simp only [execOp, hx, hy, Sem.run_bind, run_lookR (hV _ _ h1) h2 hu hk hz true, Result.andThen_ok]; rfl) h

/-! A range over a map that is only read. -/
theorem lk_some {es : List MapEntry} {k : ByteArray} {v : Value} (h : lk es k = some v) : ∃ e ∈ es, e.key = .string k ∧ e.val = v := by
  induction es with
  | nil => cases h
  | cons x xs ih =>
    simp only [lk] at h
    split at h
    · rename_i hx
      refine ⟨x, by simp, ?_, by simpa using h⟩
      revert hx
      cases hk : x.key <;> simp [keyIs]
    · obtain ⟨e, h1, h2⟩ := ih h
      exact ⟨e, by simp [h1], h2⟩
theorem lk_mem {es : List MapEntry} (hn : (es.map (·.key)).Nodup) {e : MapEntry} (he : e ∈ es) {k : ByteArray} (hk : e.key = .string k) : lk es k = some e.val := by
  induction es with
  | nil => cases he
  | cons x xs ih =>
    rw [List.map_cons, List.nodup_cons] at hn
    rcases List.mem_cons.1 he with rfl | he
    · simp [lk, hk, keyIs]
    · have hne : keyIs x.key k = false := by
        rcases hq : keyIs x.key k with _ | _
        · rfl
        · exfalso
          have : x.key = .string k := by revert hq; cases hk' : x.key <;> simp [keyIs]
          exact hn.1 (List.mem_map.2 ⟨e, he, hk.trans this.symm⟩)
      simp [lk, hne, ih hn.2 he]
theorem str_keys {es : List MapEntry} (h : StrKeys es) : ∃ ks : List ByteArray, es.map (·.key) = ks.map Value.string := by
  induction es with
  | nil => exact ⟨[], rfl⟩
  | cons x xs ih =>
    obtain ⟨ks, hk⟩ := ih fun e he => h e (by simp [he])
    obtain ⟨k, hx⟩ := h x (by simp)
    exact ⟨k :: ks, by simp [hx, hk]⟩
theorem RMa.keys {β : Type} {Z : Hv → Value → β → Prop} {b clock : Nat} {es : Array MapEntry} {F : ByteArray → Option β} (h : RMa Z σ b es clock F) : ∃ ks : List ByteArray, ks.Nodup ∧ ∀ k, k ∈ ks ↔ (F k).isSome = true := by
  obtain ⟨_, h2, h3, h4⟩ := h
  obtain ⟨ks, hk⟩ := str_keys h2
  refine ⟨ks, ?_, fun k => ?_⟩
  · have := h3.1
    rw [hk] at this
    exact (List.pairwise_map.1 this).imp fun hab e => hab (by rw [e])
  · rw [← (h4 k).isSome]
    constructor
    · intro hm
      have hmm : Value.string k ∈ es.toList.map (·.key) := by rw [hk]; exact List.mem_map.2 ⟨k, hm, rfl⟩
      obtain ⟨e, he, hek⟩ := List.mem_map.1 hmm
      rw [lk_mem h3.1 he hek]; rfl
    · intro hs
      obtain ⟨v, hv⟩ := Option.isSome_iff_exists.1 hs
      obtain ⟨e, he, hek, _⟩ := lk_some hv
      have hmm : e.key ∈ ks.map Value.string := by rw [← hk]; exact List.mem_map.2 ⟨e, he, rfl⟩
      obtain ⟨k', hk', e'⟩ := List.mem_map.1 hmm
      rw [hek] at e'
      cases e'; exact hk'
theorem entry_eq_of_key' {es : List MapEntry} (hn : (es.map (·.key)).Nodup) {x y : MapEntry} (hx : x ∈ es) (hy : y ∈ es) (h : x.key = y.key) : x = y := by
  induction es with
  | nil => cases hx
  | cons z zs ih =>
    rw [List.map_cons, List.nodup_cons] at hn
    rcases List.mem_cons.1 hx with rfl | hx' <;> rcases List.mem_cons.1 hy with rfl | hy'
    · rfl
    · exact absurd (List.mem_map.2 ⟨y, hy', h.symm⟩) hn.1
    · exact absurd (by rw [← h]; exact List.mem_map.2 ⟨x, hx', rfl⟩) hn.1
    · exact ih hn.2 hx' hy'
/-- An iterator of the call's own: which keys have come, and which one came last. -/
def itr (r b : Nat) (es : Array MapEntry) (clock : Nat) (done : List ByteArray) (cur : Option (ByteArray × Value)) : HObj where
  foot := some r
  ok w := ∃ seen, w.heap[r]? = some (.mapIter (some b) clock seen clock) ∧ (∀ e ∈ es.toList, e.born ∈ seen.toList ↔ ∃ k ∈ done, e.key = .string k) ∧
    ∀ kv, cur = some kv → ∃ (s0 : Array Nat) (e : MapEntry), seen = s0.push e.born ∧ e ∈ es.toList ∧ e.key = .string kv.1 ∧ e.val = kv.2
  stay w w' h hk := by
    obtain ⟨seen, h1, h2⟩ := hk
    exact ⟨seen, (h r rfl).trans h1, h2⟩
  lt w k hk hf := by
    cases hf
    obtain ⟨seen, h1, _⟩ := hk
    exact (Array.getElem?_eq_some_iff.1 h1).1
theorem o_range {ty kt et : TypeId} {x : Operand} {b clock : Nat} {es : Array MapEntry} (hS : St c w σ ms) (hb : τ b = some (.map es clock)) (hV : View τ w) (hx : ev n f x = .map (some b)) (hu : P.underlying ty = some (.map kt et))
    (h : ∀ r w', St c w' σ (itr r b es clock [] none :: ms) → wpList P ops Q rest (mk n (upd f d (.pointer (some ⟨r, 0, none⟩)))) w') : wpList P ops Q (⟨some d, .range ty x, t, p, af, none⟩ :: rest) (mk n f) w := by
  have h1 := hV _ _ hb
  refine o_val rfl rfl (v := .pointer (some ⟨w.heap.size, 0, none⟩)) (w' := w.alloc (.mapIter (some b) clock #[] clock)) ?_ ?_
  · simp [execOp, hx, Instr.range, Sem.run_bind, run_underlying hu, MapKept.run_getObj_map h1]
  · refine h _ _ (hS.add (alloc_keeps w _) ⟨#[], heap_alloc_new _ _, by simp, by simp⟩ (by rintro k ⟨⟩; exact Nat.le_refl _))
theorem o_next {β : Type} {Z : Hv → Value → β → Prop} {F : ByteArray → Option β} {x : Operand} {r b clock i : Nat} {es : Array MapEntry} {done : List ByteArray} {cur : Option (ByteArray × Value)} (hS : St c w σ ms) (hM : RMa Z τ b es clock F) (hV : View τ w)
    (hx : ev n f x = .pointer (some ⟨r, 0, none⟩)) (hi : ms[i]? = some (itr r b es clock done cur))
    (h0 : (∀ k, (F k).isSome = true → k ∈ done) → wpList P ops Q rest (mk n (upd f d (.tuple #[.bool false]))) w)
    (h1 : ∀ k v y w', F k = some y → k ∉ done → Z τ v y → St c w' σ (ms.set i (itr r b es clock (k :: done) (some (k, v)))) → wpList P ops Q rest (mk n (upd f d (.tuple #[.bool true, .string k, v]))) w') :
    wpList P ops Q (⟨some d, .next x false, t, p, af, none⟩ :: rest) (mk n f) w := by
  obtain ⟨m1, m2, m3, m4⟩ := hM
  obtain ⟨seen, k1, k2, k3⟩ := hS.get hi
  have hold : ∀ x ∈ es.toList, x.born < clock := fun x hx => m3.2.2 _ (List.mem_map.2 ⟨x, hx, rfl⟩)
  have hmem : ∀ e, e ∈ (leftOf es seen).toList ↔ e ∈ es.toList ∧ e.born ∉ seen.toList := by intro e; simp [leftOf]
  rcases run_next_at (P := P) w t r b clock clock seen es clock k1 (hV _ _ m1) hold (Nat.le_refl _) with ⟨hz, hr⟩ | ⟨e, he, w1, hw, hr⟩
  · refine o_val rfl rfl (by simp only [execOp, hx, Sem.run_bind, hr, Result.andThen_ok]; rfl) (h0 fun k hk => ?_)
    rw [← (m4 k).isSome] at hk
    obtain ⟨v, hv⟩ := Option.isSome_iff_exists.1 hk
    obtain ⟨e, he, hek, _⟩ := lk_some hv
    have hin : e.born ∈ seen.toList := by
      rcases Classical.em (e.born ∈ seen.toList) with hh | hh
      · exact hh
      · exfalso
        have := (hmem e).2 ⟨he, hh⟩
        rw [Array.eq_empty_of_size_eq_zero hz] at this
        simp at this
    obtain ⟨k', hk', e'⟩ := (k2 e he).1 hin
    rw [hek] at e'
    cases e'; exact hk'
  · obtain ⟨hes, hns⟩ := (hmem e).1 he
    obtain ⟨k, hk⟩ := m2 e hes
    have hlk := lk_mem m3.1 hes hk
    have hF := m4 k
    rw [hlk] at hF
    rcases hq : F k with _ | y
    · rw [hq] at hF; exact hF.elim
    · rw [hq] at hF
      have hlt : r < w.heap.size := (Array.getElem?_eq_some_iff.1 k1).1
      rw [hk] at hr
      refine o_val rfl rfl (by simp only [execOp, hx, Sem.run_bind, hr, Result.andThen_ok]; rfl) (h1 k e.val y _ hq (fun hd => hns ((k2 e hes).2 ⟨k, hd, hk⟩)) hF ?_)
      have hheap : w1.heap = w.heap := by rcases hw with rfl | rfl <;> rfl
      refine hS.step (o' := itr r b es clock (k :: done) (some (k, e.val))) hi ⟨?_, ?_, ?_, ?_, fun j hj hm => ?_⟩ ⟨seen.push e.born, ?_, fun e' he' => ?_, fun kv hkv => ?_⟩ (by rintro q ⟨⟩; exact .inl rfl) rfl hS.view.none_of_ge
      · rcases hw with rfl | rfl <;> rfl
      · rcases hw with rfl | rfl <;> rfl
      · rcases hw with rfl | rfl <;> rfl
      · simp [ChangeMaps.setBlock, hheap]
      · show (w1.heap.setIfInBounds r _)[j]? = _
        rw [Array.getElem?_setIfInBounds, if_neg (by intro e; exact hm (by simp [itr, e])), hheap]
      · show (w1.heap.setIfInBounds r _)[r]? = _
        rw [Array.getElem?_setIfInBounds, if_pos rfl, hheap, if_pos hlt]
      · rw [Array.toList_push, List.mem_append, k2 e' he', List.mem_singleton]
        constructor
        · rintro (⟨q, h1, h2⟩ | hb)
          · exact ⟨q, by simp [h1], h2⟩
          · have h5 := find_born e es.toList m3.2.1 hes
            have h6 := find_born e' es.toList m3.2.1 he'
            rw [hb, h5] at h6
            cases h6
            exact ⟨k, by simp, hk⟩
        · rintro ⟨q, h1, h2⟩
          rcases List.mem_cons.1 h1 with rfl | h1
          · right
            exact congrArg MapEntry.born (entry_eq_of_key' m3.1 he' hes (h2.trans hk.symm))
          · exact .inl ⟨q, h1, h2⟩
      · cases hkv
        exact ⟨seen, e, rfl, hes, hk, rfl⟩
theorem o_entry {β : Type} {Z : Hv → Value → β → Prop} {F : ByteArray → Option β} {x : Operand} {r b clock i : Nat} {es : Array MapEntry} {done : List ByteArray} {kk : ByteArray} {v : Value} (hS : St c w σ ms) (hM : RMa Z τ b es clock F) (hV : View τ w)
    (hx : ev n f x = .pointer (some ⟨r, 0, none⟩)) (hi : ms[i]? = some (itr r b es clock done (some (kk, v))))
    (h : wpList P ops Q rest (mk n (upd f d (.tuple #[.string kk, v]))) w) : wpList P ops Q (⟨some d, .entry x, t, p, af, none⟩ :: rest) (mk n f) w := by
  obtain ⟨m1, m2, m3, m4⟩ := hM
  obtain ⟨seen, k1, k2, k3⟩ := hS.get hi
  obtain ⟨s0, e, rfl, he, hk, hv⟩ := k3 _ rfl
  have := run_entry_at (P := P) w r b clock s0 es clock e k1 (hV _ _ m1) he m3.2.1
  rw [hk, hv] at this
  exact o_val rfl rfl (by simp only [execOp, hx, Sem.run_bind, this, Result.andThen_ok]; rfl) h

/-- The slices of a map are written no more. -/
theorem St.freezeE {α : Type} {T s : Nat} {enc : α → List Value} (he : ∀ x, (enc x).length = s) : ∀ (es : EL α) {σ : Hv}, St c w σ (ms ++ elems T s enc es) → (∀ e ∈ es, Sml e.2.2.length) →
    ∃ σ1, St c w σ1 ms ∧ Sub σ σ1 ∧ ∀ e ∈ es, RSl s (REnc enc) σ1 e.2.1 e.2.2
  | [], σ, h, _ => ⟨σ, by simpa [elems] using h, .refl _, by simp⟩
  | e :: es, σ, h, hl => by
    have h1 : St c w σ (vec e.2.1 T s e.2.2.length (e.2.2.flatMap enc) :: (ms ++ elems T s enc es)) := h.perm List.perm_middle
    obtain ⟨σ1, h2, h3, h4⟩ := h1.peek (i := 0) rfl he (hl e (by simp))
    obtain ⟨σ2, h5, h6, h7⟩ := St.freezeE he es (σ := σ1) h2 (fun x hx => hl x (by simp [hx]))
    refine ⟨σ2, h5, h3.trans h6, fun x hx => ?_⟩
    rcases List.mem_cons.1 hx with rfl | hx
    · exact RSl.menc h6 h4
    · exact h7 x hx
/-- A map of slices is written no more. -/
theorem St.freezeL {α : Type} {T s i b : Nat} {enc : α → List Value} {es : EL α} {F : ByteArray → Option (List α)} (h : St c w σ (ms ++ elems T s enc es)) (hF : ELF es F) (he : ∀ x, (enc x).length = s)
    (hi : ms[i]? = some (smap b (asl es))) (hms : ms.eraseIdx i = ms') : ∃ σ1, St c w σ1 ms' ∧ Sub σ σ1 ∧ RMp (RSl s (REnc enc)) σ1 (.map (some b)) F := by
  obtain ⟨σ1, h1, h2, h3⟩ := St.freezeE he es h hF.2
  obtain ⟨es0, clock, k1, k2, k3, k4⟩ := h1.get hi
  obtain ⟨σ2, h4, h5, h6⟩ := h1.freeze' hi hms
  refine ⟨σ2, h4, h2.trans h5, b, es0, clock, rfl, (h6 b rfl).trans k1, k2, k4, fun k => ?_⟩
  rw [k3 k, hF.1 k]
  unfold asl
  rcases hq : efind es k with _ | e
  · exact trivial
  · exact RSl.menc h5 (h3 e (List.mem_of_find?_eq_some hq))
/-- A map of plain elements is written no more. -/
theorem St.freezeMp {α : Type} {i b : Nat} {enc : α → Value} {F : ByteArray → Option α} (h : St c w σ ms) (hi : ms[i]? = some (emap b enc F)) (hms : ms.eraseIdx i = ms') :
    ∃ σ1, St c w σ1 ms' ∧ Sub σ σ1 ∧ RMp (REv enc) σ1 (.map (some b)) F := by
  obtain ⟨es0, clock, k1, k2, k3, k4⟩ := h.get hi
  obtain ⟨σ2, h4, h5, h6⟩ := h.freeze' hi hms
  refine ⟨σ2, h4, h5, b, es0, clock, rfl, (h6 b rfl).trans k1, k2, k4, fun k => ?_⟩
  rw [k3 k]
  show ORel (REv enc σ2) ((F k).map enc) (F k)
  cases F k
  · exact trivial
  · rfl
theorem REv.mono {β : Type} {enc : β → Value} : ∀ v y, REv enc σ v y → REv enc τ v y := fun _ _ h => h
theorem RSl.mz {α : Type} {size : Nat} {enc : α → List Value} (hs : Sub σ τ) : ∀ v (y : List α), RSl size (REnc enc) σ v y → RSl size (REnc enc) τ v y := fun _ _ h => RSl.menc hs h
theorem o_makemapL {α : Type} {ty : TypeId} (T s : Nat) (enc : α → List Value) (hS : St c w σ ms)
    (h : ∀ b w', St c w' σ ((smap b (asl ([] : EL α)) :: ms) ++ elems T s enc []) → wpList P ops Q rest (mk n (upd f d (.map (some b)))) w') : wpList P ops Q (⟨some d, .makeMap ty none, t, p, af, none⟩ :: rest) (mk n f) w :=
  o_makemap hS fun b w' h' => h b w' (by rw [elems, List.map_nil, List.append_nil]; exact h')
/-- The first elements of an owned slice, still owned. -/
theorem vec_takev {T size k m : Nat} {a : Option Addr} {cap : Nat} {xs : List Value} (h : (vec (.slice a k cap) T size k xs).ok w) (hm : m ≤ k) : (vec (.slice a m cap) T size m (xs.take (m * size))).ok w := by
  obtain ⟨h1, h2⟩ := h
  refine ⟨by rw [List.length_take, h1]; exact Nat.min_eq_left (Nat.mul_le_mul_right _ hm), ?_⟩
  rcases h2 with ⟨h2, h3⟩ | ⟨g, cap', cur, hv, hg, hh, h3, h4, h5, h6⟩
  · cases h2
    exact .inl ⟨by rw [show m = 0 from by omega], by omega⟩
  · cases hv
    refine .inr ⟨g, _, cur, rfl, hg, hh, by omega, h4, h5, ?_⟩
    rw [← h6, List.take_take, Nat.min_eq_left (Nat.mul_le_mul_right _ hm)]
theorem take_flat {α : Type} {enc : α → List Value} {size : Nat} (he : ∀ x, (enc x).length = size) : ∀ (l : List α) (m : Nat), (l.flatMap enc).take (m * size) = (l.take m).flatMap enc
  | [], m => by simp
  | x :: l, 0 => by simp
  | x :: l, m + 1 => by
    have hl : (m + 1) * size = (enc x).length + m * size := by rw [he, Nat.add_mul, Nat.one_mul, Nat.add_comm]
    rw [List.flatMap_cons, List.take_succ_cons, List.flatMap_cons, hl, List.take_length_add_append, take_flat he l m]
/-- A slice of the call's own gets shorter. -/
theorem St.cut {α : Type} {T size i m : Nat} {a : Option Addr} {cap : Nat} {enc : α → List Value} {l : List α} (h : St c w σ ms) (hi : ms[i]? = some (vec (.slice a l.length cap) T size l.length (l.flatMap enc))) (he : ∀ x, (enc x).length = size) (hm : m ≤ l.length)
    (hms : ms.set i (vec (.slice a m cap) T size (l.take m).length ((l.take m).flatMap enc)) = ms') : St c w σ ms' := by
  refine h.step hi (.refl _ _) ?_ ?_ hms h.view.none_of_ge
  · have := vec_takev (h.get hi) hm
    rw [take_flat he] at this
    rw [show (l.take m).length = m from by simp [hm]]
    exact this
  · intro k hk
    cases a <;> exact .inl hk
theorem vec_anyc {v : Value} {T size k : Nat} {xs : List Value} (h : (vec v T size k xs).ok w) : ∃ a cap, v = .slice a k cap ∧ k ≤ cap := by
  rcases (vec_shape h).2 with ⟨hv, rfl⟩ | ⟨g, cap, hv, h1, _⟩
  · exact ⟨_, _, hv, Nat.le_refl _⟩
  · exact ⟨_, _, hv, h1⟩
theorem sml_take {α : Type} {l : List α} {k : Nat} (h : Sml l.length) : Sml (l.take k).length := by unfold Sml at *; rw [List.length_take]; omega
/-! A literal whose elements read memory. -/
inductive RL {β : Type} (s : Nat) (Z : List Value → β → Prop) : List Value → List β → Prop
  | nil : RL s Z [] []
  | cons {c cs : List Value} {x : β} {xs : List β} : c.length = s → Z c x → RL s Z cs xs → RL s Z (c ++ cs) (x :: xs)
theorem RL.len {β : Type} {s : Nat} {Z : List Value → β → Prop} {cs : List Value} {xs : List β} (h : RL s Z cs xs) : cs.length = xs.length * s := by
  induction h with
  | nil => simp
  | cons h1 _ _ ih => rw [List.length_append, ih, h1, List.length_cons, Nat.add_mul, Nat.one_mul, Nat.add_comm]
theorem RL.at {β : Type} {s : Nat} {Z : List Value → β → Prop} {cs : List Value} {xs : List β} (h : RL s Z cs xs) : ∀ (i : Nat) x, xs[i]? = some x → ((cs.drop (i * s)).take s).length = s ∧ Z ((cs.drop (i * s)).take s) x := by
  induction h with
  | nil => intro i x hx; simp at hx
  | cons h1 h2 _ ih =>
    intro i x hx
    cases i with
    | zero =>
      simp only [List.getElem?_cons_zero, Option.some.injEq] at hx
      subst hx
      rw [Nat.zero_mul, List.drop_zero, List.take_left' h1]
      exact ⟨h1, h2⟩
    | succ i =>
      rw [List.getElem?_cons_succ] at hx
      have := ih i x hx
      rwa [Nat.add_mul, Nat.one_mul, Nat.add_comm, ← h1, List.drop_length_add_append, h1]
theorem RSl.ofLit {β : Type} {s T b k : Nat} {R : Hv → List Value → β → Prop} {cs : List Value} {xs : List β} (hw : w.heap[b]? = some (.cells cs.toArray T (0, 0))) (hb : σ b = w.heap[b]?) (h : RL s (R σ) cs xs) (hk : xs.length = k) (hm : k ≤ 140737488355328) :
    RSl s R σ (.slice (some ⟨b, 0, none⟩) k k) xs := by
  subst hk
  refine RSl.ofVec (T := T) (w := w) (xs := cs) ⟨h.len, .inr ⟨b, xs.length, cs.toArray, rfl, Nat.zero_le _, hw, Nat.le_refl _, by unfold maxLen; omega, by simpa using h.len, ?_⟩⟩ ?_ rfl hm h.at
  · rw [← h.len]; simp
  · intro b' hb'
    cases hb'
    exact hb
theorem RSs.mk {α : Type} {s : Nat} {R : Hv → List Value → α → Prop} {v : Value} {l : List α} (h : RSl s R σ v l) : RSs s R σ [v] l := ⟨v, rfl, h⟩
/-! make([]T, k): k zero values. -/
theorem flat_rep {α : Type} {enc : α → List Value} {s : Nat} (he : ∀ x, (enc x).length = s) (z : α) : ∀ (k j : Nat), j < k * s → ((List.replicate k z).flatMap enc)[j]? = (enc z)[j % s]?
  | 0, j, h => by omega
  | k + 1, j, h => by
    rw [List.replicate_succ, List.flatMap_cons]
    by_cases hj : j < s
    · rw [List.getElem?_append_left (by rw [he]; exact hj), Nat.mod_eq_of_lt hj]
    · have h' : j < k * s + s := by rw [Nat.add_mul, Nat.one_mul] at h; exact h
      rw [List.getElem?_append_right (by rw [he]; omega), he, flat_rep he z k (j - s) (by omega), ← Nat.mod_eq_sub_mod (by omega)]
theorem made_many {α : Type} {enc : α → List Value} {s : Nat} (he : ∀ x, (enc x).length = s) (z : α) {cs : Array Value} (hc : cs.toList = enc z) (k : Nat) : (madeCells cs (k * s)).toList = (List.replicate k z).flatMap enc := by
  have hs : cs.size = s := by rw [← Array.length_toList, hc, he]
  apply List.ext_getElem?
  intro j
  by_cases hj : j < k * s
  · rw [flat_rep he z k j hj, ← hc]
    have hpos : 0 < s := by
      rcases Nat.eq_zero_or_pos s with h0 | h0
      · rw [h0] at hj; omega
      · exact h0
    have hjs : j % s < cs.size := by rw [hs]; exact Nat.mod_lt _ hpos
    simp [madeCells, hs, hj]
    rw [Array.getElem?_eq_getElem hjs, getElem!_pos cs _ hjs]
  · rw [List.getElem?_eq_none (by simp [madeCells]; omega), List.getElem?_eq_none]
    rw [flat_len he, List.length_replicate]; omega
/-- A store into an owned slice whose value has another spelling; the elements keep their number. -/
theorem o_store_vecv {α : Type} {enc : α → List Value} {ty : TypeId} {x y : Operand} {g cap T size o j a b : Nat} {u v0 : Value} {l : List α} {e z : α} {vs : List Value} {i : Nat} (hS : St c w σ ms) (hx : ev n f x = .pointer (some ⟨g, o, none⟩)) (hy : ev n f y = u)
    (hvs : u.cells.toList = vs) (hs : ∀ w, (sizeOf ty).run P w = .ok j w) (hl : vs.length = j) (h1 : ∀ u ∈ vs, u.oneCell' = true) (hv : v0 = .slice (some ⟨g, 0, none⟩) l.length cap)
    (hi : ms[i]? = some (vec v0 T size l.length (l.flatMap enc))) (he : ∀ x, (enc x).length = size) (hx2 : l[a]? = some e) (ho : o = a * size + b) (hb : b + j ≤ size) (hsp : splice (enc e) b vs = enc z) (hms : ms.set i (vec v0 T size (l.set a z).length ((l.set a z).flatMap enc)) = ms')
    (h : ∀ w', St c w' σ ms' → wpList P ops Q rest (mk n f) w') : wpList P ops Q (⟨none, .store ty x y, t, p, af, none⟩ :: rest) (mk n f) w := by
  subst hv ho
  have ha : a < l.length := lt_of_getq hx2
  refine o_store_vec hS hx hy hvs hs hl h1 hi ?_ (flat_set he hx2 hsp (by rw [hl]; exact hb)) ?_ h
  · have : (a + 1) * size ≤ l.length * size := Nat.mul_le_mul_right _ ha
    rw [Nat.add_mul, Nat.one_mul] at this; omega
  · rw [List.length_set] at hms; exact hms
end Go.Fl
