/- Maps whose keys are of any kind that the model compares as it should, made by the call itself. Conditions: those in the statements. -/
import Derived.Test.YtkfcnibjlmiboaaFlMapL
namespace Go.Fl
open Go Go.RowKit
variable {P : Program} {ops : Array Oper} {Q : Exit → Act → World → Prop} {rest : List Oper} {n : Nat} {f : Fr} {w w' : World} {d : Nat} {t : TypeId} {p : String} {af : Array Edge}
variable {c : Cx} {σ : Hv} {ms ms' : List HObj} {κ : Type}
open Classical in
/-- The first entry at a key, and its place. -/
noncomputable def fidx (kenc : κ → Value) (k : κ) : List MapEntry → Nat → Option (Nat × Value)
  | [], _ => none
  | e :: es, i => if e.key = kenc k then some (i, e.val) else fidx kenc k es (i + 1)
noncomputable def lkK (kenc : κ → Value) (es : List MapEntry) (k : κ) : Option Value := (fidx kenc k es 0).map (·.2)
def KeysOf (kenc : κ → Value) (es : List MapEntry) : Prop := ∀ e ∈ es, ∃ k, e.key = kenc k
/-- Keys of this kind are found as they should be. -/
structure KeyOk (P : Program) (kt : TypeId) (kenc : κ → Value) : Prop where
  inj : ∀ a b, kenc a = kenc b → a = b
  check : ∀ (e : Bool) (k : κ) (w : World), (Instr.checkKey e 10000 kt (kenc k)).run P w = .ok () w
  find : ∀ (es : List MapEntry) (k : κ) (w : World), KeysOf kenc es → (Instr.findKey kt (kenc k) es).run P w = .ok (fidx kenc k es 0) w
  stays : ∀ (k : κ) (w : World), (Instr.keyThatStays (kenc k) (kenc k)).run P w = .ok (kenc k) w
def smapK (kenc : κ → Value) (b : Nat) (m : κ → Option Value) : HObj where
  foot := some b
  ok w := ∃ es clock, w.heap[b]? = some (.map es clock) ∧ KeysOf kenc es.toList ∧ (∀ k, lkK kenc es.toList k = m k) ∧ MBk es.toList clock
  stay w w' h hk := by
    obtain ⟨es, clock, h1, h2⟩ := hk
    exact ⟨es, clock, (h b rfl).trans h1, h2⟩
  lt w k hk hf := by
    cases hf
    obtain ⟨es, clock, h1, _⟩ := hk
    exact (Array.getElem?_eq_some_iff.1 h1).1
theorem fidx_spec (kenc : κ → Value) (k : κ) : ∀ (es : List MapEntry) (i : Nat), (fidx kenc k es i = none ∧ ∀ e ∈ es, e.key ≠ kenc k) ∨ ∃ j e, fidx kenc k es i = some (i + j, e.val) ∧ es[j]? = some e ∧ e.key = kenc k ∧ ∀ j' e', j' < j → es[j']? = some e' → e'.key ≠ kenc k
  | [], i => .inl ⟨rfl, by simp⟩
  | e :: es, i => by
    by_cases hk : e.key = kenc k
    · exact .inr ⟨0, e, by simp [fidx, hk], rfl, hk, fun j' e' h => by omega⟩
    · rcases fidx_spec kenc k es (i + 1) with ⟨h1, h2⟩ | ⟨j, e', h1, h2, h3, h4⟩
      · refine .inl ⟨by simp [fidx, hk, h1], fun x hx => ?_⟩
        rcases List.mem_cons.1 hx with rfl | hx
        · exact hk
        · exact h2 x hx
      · refine .inr ⟨j + 1, e', by simp [fidx, hk, h1]; omega, by simpa using h2, h3, fun j' x hj' hx => ?_⟩
        cases j' with
        | zero => simp at hx; subst hx; exact hk
        | succ j' => exact h4 j' x (by omega) (by simpa using hx)
theorem lkK_iff {kenc : κ → Value} {es : List MapEntry} (hn : (es.map (·.key)).Nodup) (k : κ) (v : Value) : lkK kenc es k = some v ↔ ∃ e ∈ es, e.key = kenc k ∧ e.val = v := by
  unfold lkK
  rcases fidx_spec kenc k es 0 with ⟨h1, h2⟩ | ⟨j, e, h1, h2, h3, _⟩
  · rw [h1]
    simp only [Option.map_none, reduceCtorEq, false_iff]
    rintro ⟨e, he, hk, _⟩
    exact h2 e he hk
  · rw [h1]
    simp only [Option.map_some, Option.some.injEq]
    constructor
    · rintro rfl; exact ⟨e, List.mem_of_getElem? h2, h3, rfl⟩
    · rintro ⟨e', he', hk', rfl⟩
      rw [entry_eq_of_key' hn (List.mem_of_getElem? h2) he' (h3.trans hk'.symm)]
theorem lkK_none {kenc : κ → Value} {es : List MapEntry} (k : κ) : lkK kenc es k = none ↔ ∀ e ∈ es, e.key ≠ kenc k := by
  unfold lkK
  rcases fidx_spec kenc k es 0 with ⟨h1, h2⟩ | ⟨j, e, h1, h2, h3, _⟩
  · rw [h1]; simpa using h2
  · rw [h1]
    simp only [Option.map_some, reduceCtorEq, false_iff]
    exact fun h => h e (List.mem_of_getElem? h2) h3
theorem o_kmake {ty : TypeId} (kenc : κ → Value) (hS : St c w σ ms)
    (h : ∀ b w', St c w' σ (smapK kenc b (fun _ => none) :: ms) → wpList P ops Q rest (mk n (upd f d (.map (some b)))) w') : wpList P ops Q (⟨some d, .makeMap ty none, t, p, af, none⟩ :: rest) (mk n f) w := by
  refine o_val rfl rfl (v := .map (some w.heap.size)) (w' := w.alloc (.map #[] 0)) ?_ ?_
  · simp [execOp, Instr.makeMap]
  · refine h _ _ (hS.add (alloc_keeps w _) ⟨#[], 0, ?_, by simp [KeysOf], fun k => rfl, by simp [MBk]⟩ (by rintro k ⟨⟩; exact Nat.le_refl _))
    exact heap_alloc_new _ _
theorem run_lookK {kenc : κ → Value} {ty kt et : TypeId} {b : Nat} {m : κ → Option Value} {k : κ} {z : Value} (K : KeyOk P kt kenc) (hu : P.underlying ty = some (.map kt et)) (hz : ∀ w, (zeroValue et).run P w = .ok z w) (ho : (smapK kenc b m).ok w) (cok : Bool) :
    (Instr.lookup ty (.map (some b)) (kenc k) cok).run P w = .ok (if cok then .tuple #[(m k).getD z, .bool (m k).isSome] else (m k).getD z) w := by
  obtain ⟨es, clock, h1, h2, h3, _⟩ := ho
  have hf := K.find es.toList k w h2
  have hm := h3 k
  unfold lkK at hm
  unfold Instr.lookup
  rcases hq : fidx kenc k es.toList 0 with _ | ⟨i, v⟩
  · rw [hq] at hf hm
    have hm' : m k = none := hm.symm
    cases cok <;> simp [Sem.run_bind, run_underlying hu, MapKept.run_getObj_map h1, K.check, hf, hz, hm']
  · rw [hq] at hf hm
    have hm' : m k = some v := hm.symm
    cases cok <;> simp [Sem.run_bind, run_underlying hu, MapKept.run_getObj_map h1, K.check, hf, hm']
theorem MBk.pushK {es : List MapEntry} {clock : Nat} (h : MBk es clock) {kv : Value} (hn : ∀ e ∈ es, e.key ≠ kv) (v : Value) : MBk (es ++ [{ key := kv, val := v, born := clock }]) (clock + 1) := by
  refine ⟨?_, ?_, ?_⟩
  · rw [List.map_append, List.map_singleton]
    refine List.nodup_append.2 ⟨h.1, by simp, fun a ha b hb => ?_⟩
    obtain ⟨e, he, rfl⟩ := List.mem_map.1 ha
    rw [List.mem_singleton.1 hb]
    exact hn e he
  · rw [List.map_append, List.map_singleton]
    refine List.nodup_append.2 ⟨h.2.1, by simp, fun a ha b hb => ?_⟩
    rw [List.mem_singleton.1 hb]
    exact Nat.ne_of_lt (h.2.2 a ha)
  · intro x hx
    rw [List.map_append, List.map_singleton] at hx
    rcases List.mem_append.1 hx with hx | hx
    · exact Nat.lt_succ_of_lt (h.2.2 x hx)
    · rw [List.mem_singleton.1 hx]; exact Nat.lt_succ_self _
open Classical in
theorem run_putK {kenc : κ → Value} {ty kt et : TypeId} {b : Nat} {m : κ → Option Value} {k : κ} {v : Value} (K : KeyOk P kt kenc) (hu : P.underlying ty = some (.map kt et)) (ho : (smapK kenc b m).ok w) :
    ∃ w', (Instr.mapUpdate ty (.map (some b)) (kenc k) v).run P w = .ok () w' ∧ Keeps [b] w w' ∧ (smapK kenc b (fun k' => if k' = k then some v else m k')).ok w' := by
  obtain ⟨es, clock, h1, h2, h3, h4⟩ := ho
  have hlt : b < w.heap.size := (Array.getElem?_eq_some_iff.1 h1).1
  have hf := K.find es.toList k w h2
  have hkeep : ∀ o : Obj, Keeps [b] w { w with heap := w.heap.setIfInBounds b o } := fun o =>
    ⟨rfl, rfl, rfl, by simp, fun j hj hm => by
      show (w.heap.setIfInBounds b o)[j]? = _
      rw [Array.getElem?_setIfInBounds, if_neg (by intro e; exact hm (by simp [e]))]⟩
  have hget : ∀ o : Obj, ({ w with heap := w.heap.setIfInBounds b o } : World).heap[b]? = some o := fun o => by
    show (w.heap.setIfInBounds b o)[b]? = _
    rw [Array.getElem?_setIfInBounds, if_pos rfl, if_pos hlt]
  rcases fidx_spec kenc k es.toList 0 with ⟨hq, hno⟩ | ⟨j, e, hq, he, hek, _⟩
  · rw [hq] at hf
    have hMB := h4.pushK hno v
    refine ⟨_, ?_, hkeep (.map (es.push { key := kenc k, val := v, born := clock }) (clock + 1)), ⟨_, _, hget _, ?_, fun k' => ?_, by rw [Array.toList_push]; exact hMB⟩⟩
    · unfold Instr.mapUpdate
      simp [Sem.run_bind, run_underlying hu, MapKept.run_getObj_map h1, K.check, hf, MapKept.run_setObj_map _ h1]
    · intro e he
      simp only [Array.toList_push, List.mem_append, List.mem_singleton] at he
      rcases he with he | rfl
      · exact h2 e he
      · exact ⟨k, rfl⟩
    · rw [Array.toList_push]
      show _ = if k' = k then some v else m k'
      by_cases hk : k' = k
      · subst hk
        rw [if_pos rfl]
        exact (lkK_iff hMB.1 k' v).2 ⟨{ key := kenc k', val := v, born := clock }, by simp, rfl, rfl⟩
      · rw [if_neg hk, ← h3]
        rcases hr : lkK kenc es.toList k' with _ | u
        · refine (lkK_none k').2 fun e he => ?_
          rcases List.mem_append.1 he with he | he
          · exact (lkK_none k').1 hr e he
          · rw [List.mem_singleton.1 he]; exact fun hh => hk (K.inj _ _ hh).symm
        · obtain ⟨e, he, h5, h6⟩ := (lkK_iff h4.1 k' u).1 hr
          exact (lkK_iff hMB.1 k' u).2 ⟨e, by simp [he], h5, h6⟩
  · rw [hq, Nat.zero_add] at hf
    have hkt : ∀ w, (Instr.keyThatStays (((es[j]?).map (·.key)).getD (kenc k)) (kenc k)).run P w = .ok (kenc k) w := fun w => by
      have : es[j]? = some e := by rw [← he]; simp
      rw [this]
      simp only [Option.map_some, Option.getD_some, hek]
      exact K.stays k w
    have m1 := modify_map (es := es.toList) (j := j) (·.key) (fun e : MapEntry => { e with key := kenc k, val := v }) (fun e' he' => by rw [he] at he'; cases he'; exact hek.symm)
    have m2 := modify_map (es := es.toList) (j := j) (·.born) (fun e : MapEntry => { e with key := kenc k, val := v }) (fun _ _ => rfl)
    have hMB : MBk (es.modify j fun e => { e with key := kenc k, val := v }).toList clock := by
      rw [Array.toList_modify]
      exact ⟨by rw [m1]; exact h4.1, by rw [m2]; exact h4.2.1, by rw [m2]; exact h4.2.2⟩
    have hmem : ∀ e', e' ∈ (es.modify j fun e => { e with key := kenc k, val := v }).toList ↔ (e' ∈ es.toList ∧ e'.key ≠ kenc k) ∨ e' = { e with key := kenc k, val := v } := by
      intro e'
      rw [Array.toList_modify, List.mem_iff_getElem?]
      constructor
      · rintro ⟨q, hq⟩
        rw [List.getElem?_modify] at hq
        simp only [Option.map_eq_map, Option.map_eq_some_iff] at hq
        obtain ⟨x, hx, rfl⟩ := hq
        split
        · rename_i hjq
          subst hjq
          rw [he] at hx; cases hx
          exact .inr rfl
        · rename_i hjq
          refine .inl ⟨List.mem_of_getElem? hx, fun hxk => hjq ?_⟩
          obtain ⟨a1, b1⟩ := List.getElem?_eq_some_iff.1 he
          obtain ⟨a2, b2⟩ := List.getElem?_eq_some_iff.1 hx
          have hp := List.pairwise_iff_getElem.1 h4.1
          rcases Nat.lt_trichotomy j q with h | h | h
          · have h5 := hp j q (by simpa using a1) (by simpa using a2) h
            rw [List.getElem_map, List.getElem_map, b1, b2, hek, hxk] at h5
            exact absurd rfl h5
          · exact h
          · have h5 := hp q j (by simpa using a2) (by simpa using a1) h
            rw [List.getElem_map, List.getElem_map, b1, b2, hek, hxk] at h5
            exact absurd rfl h5
      · rintro (⟨hx, hne⟩ | rfl)
        · obtain ⟨q, hq⟩ := List.mem_iff_getElem?.1 hx
          refine ⟨q, ?_⟩
          rw [List.getElem?_modify, hq]
          simp only [Option.map_eq_map, Option.map_some, Option.some.injEq]
          rw [if_neg]
          intro hjq; subst hjq
          rw [he] at hq; cases hq; exact hne hek
        · refine ⟨j, ?_⟩
          rw [List.getElem?_modify, he]; simp
    refine ⟨_, ?_, hkeep (.map (es.modify j fun e => { e with key := kenc k, val := v }) clock), ⟨_, _, hget _, ?_, fun k' => ?_, hMB⟩⟩
    · unfold Instr.mapUpdate
      simp [Sem.run_bind, run_underlying hu, MapKept.run_getObj_map h1, K.check, hf, hkt, MapKept.run_setObj_map _ h1]
    · intro e' he'
      rcases (hmem e').1 he' with ⟨h5, _⟩ | rfl
      · exact h2 e' h5
      · exact ⟨k, rfl⟩
    · show _ = if k' = k then some v else m k'
      by_cases hk : k' = k
      · subst hk
        rw [if_pos rfl]
        exact (lkK_iff hMB.1 k' v).2 ⟨_, (hmem _).2 (.inr rfl), rfl, rfl⟩
      · rw [if_neg hk, ← h3]
        rcases hr : lkK kenc es.toList k' with _ | u
        · refine (lkK_none k').2 fun e' he' => ?_
          rcases (hmem e').1 he' with ⟨h5, _⟩ | rfl
          · exact (lkK_none k').1 hr e' h5
          · exact fun hh => hk (K.inj _ _ hh).symm
        · obtain ⟨e', he', h5, h6⟩ := (lkK_iff h4.1 k' u).1 hr
          exact (lkK_iff hMB.1 k' u).2 ⟨e', (hmem e').2 (.inl ⟨he', fun hh => hk (K.inj _ _ (h5.symm.trans hh))⟩), h5, h6⟩
/-! By what the elements stand for. -/
def ekmap {α : Type} (kenc : κ → Value) (b : Nat) (enc : α → Value) (F : κ → Option α) : HObj := smapK kenc b (fun k => (F k).map enc)
theorem ekmap_put {α : Type} [DecidableEq κ] (kenc : κ → Value) (b : Nat) (enc : α → Value) (F : κ → Option α) (k : κ) (y : α) : smapK kenc b (fun k' => @ite _ (k' = k) (Classical.propDecidable _) (some (enc y)) ((F k').map enc)) = ekmap kenc b enc (put F k y) := by
  unfold ekmap
  congr 1
  funext k'
  unfold put
  by_cases h : k' = k <;> simp [h]
theorem o_ekmake {α : Type} {ty : TypeId} (kenc : κ → Value) (enc : α → Value) (hS : St c w σ ms)
    (h : ∀ b w', St c w' σ (ekmap kenc b enc (fun _ => none) :: ms) → wpList P ops Q rest (mk n (upd f d (.map (some b)))) w') : wpList P ops Q (⟨some d, .makeMap ty none, t, p, af, none⟩ :: rest) (mk n f) w :=
  o_kmake kenc hS fun b w' h' => h b w' h'
theorem o_eklook {α : Type} {kenc : κ → Value} {enc : α → Value} {F : κ → Option α} {ty kt et : TypeId} {x y : Operand} {b i : Nat} {k : κ} {z v : Value} (hS : St c w σ ms) (hx : ev n f x = .map (some b)) (hy : ev n f y = kenc k) (hi : ms[i]? = some (ekmap kenc b enc F))
    (hu : P.underlying ty = some (.map kt et)) (K : KeyOk P kt kenc) (hz : ∀ w, (zeroValue et).run P w = .ok z w) (hv : ((F k).map enc).getD z = v)
    (h : wpList P ops Q rest (mk n (upd f d v)) w) : wpList P ops Q (⟨some d, .lookup ty x y false, t, p, af, none⟩ :: rest) (mk n f) w :=
  o_val rfl rfl (by subst hv; simp only [execOp, hx, hy, Sem.run_bind, run_lookK K hu hz (hS.get hi) false, Result.andThen_ok]; rfl) h
theorem o_eklook_ok {α : Type} {kenc : κ → Value} {enc : α → Value} {F : κ → Option α} {ty kt et : TypeId} {x y : Operand} {b i : Nat} {k : κ} {z v : Value} {r : Bool} (hS : St c w σ ms) (hx : ev n f x = .map (some b)) (hy : ev n f y = kenc k) (hi : ms[i]? = some (ekmap kenc b enc F))
    (hu : P.underlying ty = some (.map kt et)) (K : KeyOk P kt kenc) (hz : ∀ w, (zeroValue et).run P w = .ok z w) (hv : ((F k).map enc).getD z = v) (hr : (F k).isSome = r)
    (h : wpList P ops Q rest (mk n (upd f d (.tuple #[v, .bool r]))) w) : wpList P ops Q (⟨some d, .lookup ty x y true, t, p, af, none⟩ :: rest) (mk n f) w :=
  o_val rfl rfl (by subst hv; subst hr; simp only [execOp, hx, hy, Sem.run_bind, run_lookK K hu hz (hS.get hi) true, Result.andThen_ok, Option.isSome_map]; rfl) h
theorem o_ekput {α : Type} [DecidableEq κ] {kenc : κ → Value} {enc : α → Value} {F : κ → Option α} {y0 : α} {ty kt et : TypeId} {x y u : Operand} {b i : Nat} {k : κ} (hS : St c w σ ms) (hx : ev n f x = .map (some b)) (hy : ev n f y = kenc k) (hv : ev n f u = enc y0) (hi : ms[i]? = some (ekmap kenc b enc F))
    (hu : P.underlying ty = some (.map kt et)) (K : KeyOk P kt kenc) (hms : ms.set i (ekmap kenc b enc (put F k y0)) = ms')
    (h : ∀ w', St c w' σ ms' → wpList P ops Q rest (mk n f) w') : wpList P ops Q (⟨none, .mapUpdate ty x y u, t, p, af, none⟩ :: rest) (mk n f) w := by
  obtain ⟨w', hr, hkp, ho⟩ := run_putK (k := k) (v := ev n f u) K hu (hS.get hi)
  rw [hv] at ho hr
  rw [ekmap_put] at ho
  refine o_skip rfl rfl (by simp only [execOp, hx, hy, hv, Sem.run_bind, hr, Result.andThen_ok]; rfl) (h _ (hS.step hi hkp ho (by rintro k ⟨⟩; exact .inl rfl) hms hS.view.none_of_ge))
/-- Whole numbers as keys. -/
theorem keyOk_int {kt : TypeId} {q : IntKind} (hk : P.underlying kt = some (.int q)) : KeyOk P kt (fun x : Int => .int q x) where
  inj a b h := by simpa using h
  check e k w := by unfold Instr.checkKey; simp [Sem.run_bind, run_underlying hk]
  find es k w h := by
    have key : ∀ (es : List MapEntry) (i : Nat), KeysOf (fun x : Int => Value.int q x) es → Instr.findNow (.int q) (.int q k) es i = some (fidx (fun x : Int => Value.int q x) k es i) := by
      intro es
      induction es with
      | nil => intro i _; rfl
      | cons e es ih =>
        intro i h
        obtain ⟨a, ha⟩ := h e (by simp)
        have ih' := ih (i + 1) fun x hx => h x (by simp [hx])
        by_cases hka : k = a
        · subst hka; simp [Instr.findNow, ha, Instr.sameNow, fidx]
        · have hak : ¬ a = k := fun e => hka e.symm
          have hb : (k == a) = false := by simp [hka]
          simp [Instr.findNow, ha, Instr.sameNow, fidx, hb, hak, ih']
    unfold Instr.findKey
    simp [Sem.run_bind, run_underlying hk, key es 0 h]
  stays k w := by unfold Instr.keyThatStays; simp [Instr.sameBits]
/-! A range over a map that is written no more. -/
/-- An iterator of the call's own: which keys have come, and which one came last. -/
def itrK (kenc : κ → Value) (r b : Nat) (es : Array MapEntry) (clock : Nat) (done : List κ) (cur : Option (κ × Value)) : HObj where
  foot := some r
  ok w := ∃ seen, w.heap[r]? = some (.mapIter (some b) clock seen clock) ∧ (∀ e ∈ es.toList, e.born ∈ seen.toList ↔ ∃ k ∈ done, e.key = kenc k) ∧
    ∀ kv, cur = some kv → ∃ (s0 : Array Nat) (e : MapEntry), seen = s0.push e.born ∧ e ∈ es.toList ∧ e.key = kenc kv.1 ∧ e.val = kv.2
  stay w w' h hk := by
    obtain ⟨seen, h1, h2⟩ := hk
    exact ⟨seen, (h r rfl).trans h1, h2⟩
  lt w k hk hf := by
    cases hf
    obtain ⟨seen, h1, _⟩ := hk
    exact (Array.getElem?_eq_some_iff.1 h1).1
theorem run_nextK {kenc : κ → Value} {ty r b clock : Nat} {es : Array MapEntry} {done : List κ} {cur : Option (κ × Value)} (hi : (itrK kenc r b es clock done cur).ok w) (hb : w.heap[b]? = some (.map es clock)) (hK : KeysOf kenc es.toList) (hM : MBk es.toList clock) :
    ((∀ k v, lkK kenc es.toList k = some v → ∃ k' ∈ done, kenc k = kenc k') ∧ (Instr.next (.pointer (some ⟨r, 0, none⟩)) false ty).run P w = .ok (.tuple #[.bool false]) w) ∨
    ∃ k v w', lkK kenc es.toList k = some v ∧ k ∉ done ∧ (Instr.next (.pointer (some ⟨r, 0, none⟩)) false ty).run P w = .ok (.tuple #[.bool true, kenc k, v]) w' ∧ Keeps [r] w w' ∧ (itrK kenc r b es clock (k :: done) (some (k, v))).ok w' := by
  obtain ⟨seen, k1, k2, k3⟩ := hi
  have hold : ∀ x ∈ es.toList, x.born < clock := fun x hx => hM.2.2 _ (List.mem_map.2 ⟨x, hx, rfl⟩)
  have hmem : ∀ e, e ∈ (leftOf es seen).toList ↔ e ∈ es.toList ∧ e.born ∉ seen.toList := by intro e; simp [leftOf]
  rcases run_next_at (P := P) w ty r b clock clock seen es clock k1 hb hold (Nat.le_refl _) with ⟨hz, hr⟩ | ⟨e, he, w1, hw, hr⟩
  · refine .inl ⟨fun k v hk => ?_, hr⟩
    obtain ⟨e, he, hek, _⟩ := (lkK_iff hM.1 k v).1 hk
    have hin : e.born ∈ seen.toList := by
      rcases Classical.em (e.born ∈ seen.toList) with hh | hh
      · exact hh
      · exfalso
        have := (hmem e).2 ⟨he, hh⟩
        rw [Array.eq_empty_of_size_eq_zero hz] at this
        simp at this
    obtain ⟨k', hk', e'⟩ := (k2 e he).1 hin
    exact ⟨k', hk', hek.symm.trans e'⟩
  · obtain ⟨hes, hns⟩ := (hmem e).1 he
    obtain ⟨k, hk⟩ := hK e hes
    have hlt : r < w.heap.size := (Array.getElem?_eq_some_iff.1 k1).1
    have hheap : w1.heap = w.heap := by rcases hw with rfl | rfl <;> rfl
    rw [hk] at hr
    refine .inr ⟨k, e.val, _, (lkK_iff hM.1 k e.val).2 ⟨e, hes, hk, rfl⟩, fun hd => hns ((k2 e hes).2 ⟨k, hd, hk⟩), hr, ⟨?_, ?_, ?_, ?_, fun j hj hm => ?_⟩, ⟨seen.push e.born, ?_, fun e' he' => ?_, fun kv hkv => ?_⟩⟩
    · rcases hw with rfl | rfl <;> rfl
    · rcases hw with rfl | rfl <;> rfl
    · rcases hw with rfl | rfl <;> rfl
    · simp [ChangeMaps.setBlock, hheap]
    · show (w1.heap.setIfInBounds r _)[j]? = _
      rw [Array.getElem?_setIfInBounds, if_neg (by intro e; exact hm (by simp [e])), hheap]
    · show (w1.heap.setIfInBounds r _)[r]? = _
      rw [Array.getElem?_setIfInBounds, if_pos rfl, hheap, if_pos hlt]
    · rw [Array.toList_push, List.mem_append, k2 e' he', List.mem_singleton]
      constructor
      · rintro (⟨q, h1, h2⟩ | hb)
        · exact ⟨q, by simp [h1], h2⟩
        · have h5 := find_born e es.toList hM.2.1 hes
          have h6 := find_born e' es.toList hM.2.1 he'
          rw [hb, h5] at h6
          cases h6
          exact ⟨k, by simp, hk⟩
      · rintro ⟨q, h1, h2⟩
        rcases List.mem_cons.1 h1 with rfl | h1
        · right
          exact congrArg MapEntry.born (entry_eq_of_key' hM.1 he' hes (h2.trans hk.symm))
        · exact .inl ⟨q, h1, h2⟩
    · cases hkv
      exact ⟨seen, e, rfl, hes, hk, rfl⟩
/-- The keys of a map. -/
theorem keysK {kenc : κ → Value} {es : List MapEntry} (hK : KeysOf kenc es) (hM : (es.map (·.key)).Nodup) (hinj : ∀ a b, kenc a = kenc b → a = b) : ∃ ks : List κ, ks.Nodup ∧ ∀ k, k ∈ ks ↔ (lkK kenc es k).isSome = true := by
  have hl : ∃ ks : List κ, es.map (·.key) = ks.map kenc := by
    clear hM
    induction es with
    | nil => exact ⟨[], rfl⟩
    | cons x xs ih =>
      obtain ⟨ks, hk⟩ := ih fun e he => hK e (by simp [he])
      obtain ⟨k, hx⟩ := hK x (by simp)
      exact ⟨k :: ks, by simp [hx, hk]⟩
  obtain ⟨ks, hks⟩ := hl
  refine ⟨ks, ?_, fun k => ?_⟩
  · have := hM
    rw [hks] at this
    exact (List.pairwise_map.1 this).imp fun hab e => hab (by rw [e])
  · rw [Option.isSome_iff_exists]
    constructor
    · intro hm
      have hmm : kenc k ∈ es.map (·.key) := by rw [hks]; exact List.mem_map.2 ⟨k, hm, rfl⟩
      obtain ⟨e, he, hek⟩ := List.mem_map.1 hmm
      exact ⟨e.val, (lkK_iff hM k e.val).2 ⟨e, he, hek, rfl⟩⟩
    · rintro ⟨v, hv⟩
      obtain ⟨e, he, hek, _⟩ := (lkK_iff hM k v).1 hv
      have hmm : e.key ∈ ks.map kenc := by rw [← hks]; exact List.mem_map.2 ⟨e, he, rfl⟩
      obtain ⟨k', hk', e'⟩ := List.mem_map.1 hmm
      rw [hek] at e'
      rw [← hinj _ _ e']; exact hk'
end Go.Fl
