/- One rule an operation: maps whose keys are strings, made by the call itself. Conditions: none; every rule speaks of any program. -/
import Derived.Test.YtkfcnibjlmiboaaFlDraw
import Derived.Test.YtkfcnibjlmiboaaFlPure
import Derived.MapKept
import GoSem.Instr.MapUpdate
namespace Go.Fl
open Go Go.RowKit

variable {P : Program} {ops : Array Oper} {Q : Exit → Act → World → Prop} {rest : List Oper} {n : Nat} {f : Fr} {w w' : World} {d : Nat} {t : TypeId} {p : String} {af : Array Edge}
variable {c : Cx} {σ : Hv} {ms ms' : List HObj}

/-- The first entry of a key. -/
def keyIs (v : Value) (k : ByteArray) : Bool :=
  match v with
  | .string a => decide (a = k)
  | _ => false
def lk : List MapEntry → ByteArray → Option Value
  | [], _ => none
  | e :: es, k => if keyIs e.key k = true then some e.val else lk es k
theorem keyIs_string (a k : ByteArray) : keyIs (.string a) k = decide (a = k) := rfl
def StrKeys (es : List MapEntry) : Prop := ∀ e ∈ es, ∃ k, e.key = .string k

/-- Keys and stamps differ, and the stamps are past. -/
def MBk (es : List MapEntry) (clock : Nat) : Prop := (es.map (·.key)).Nodup ∧ (es.map (·.born)).Nodup ∧ ∀ x ∈ es.map (·.born), x < clock
theorem modify_map {β : Type} (g : MapEntry → β) (u : MapEntry → MapEntry) {es : List MapEntry} {j : Nat} (h : ∀ e, es[j]? = some e → g (u e) = g e) : (es.modify j u).map g = es.map g := by
  apply List.ext_getElem?
  intro i
  rw [List.getElem?_map, List.getElem?_map, List.getElem?_modify]
  by_cases hij : j = i
  · subst hij
    rcases hq : es[j]? with _ | e
    · rfl
    · simp [h e hq]
  · simp [hij]
theorem lk_none {es : List MapEntry} {k : ByteArray} (h : lk es k = none) : ∀ e ∈ es, e.key ≠ .string k := by
  induction es with
  | nil => simp
  | cons x xs ih =>
    intro e he hk
    simp only [lk] at h
    split at h
    · cases h
    · rename_i hx
      rcases List.mem_cons.1 he with rfl | he
      · rw [hk] at hx; simp [keyIs] at hx
      · exact ih h e he hk
theorem MBk.push {es : List MapEntry} {clock : Nat} (h : MBk es clock) {k : ByteArray} (hn : lk es k = none) (v : Value) : MBk (es ++ [{ key := .string k, val := v, born := clock }]) (clock + 1) := by
  refine ⟨?_, ?_, ?_⟩
  · rw [List.map_append, List.map_singleton]
    refine List.nodup_append.2 ⟨h.1, by simp, fun a ha b hb => ?_⟩
    obtain ⟨e, he, rfl⟩ := List.mem_map.1 ha
    rw [List.mem_singleton.1 hb]
    exact lk_none hn e he
  · rw [List.map_append, List.map_singleton]
    refine List.nodup_append.2 ⟨h.2.1, by simp, fun a ha b hb => ?_⟩
    rw [List.mem_singleton.1 hb]
    exact Nat.ne_of_lt (h.2.2 a ha)
  · intro x hx
    rw [List.map_append, List.map_singleton] at hx
    rcases List.mem_append.1 hx with hx | hx
    · exact Nat.lt_succ_of_lt (h.2.2 x hx)
    · rw [List.mem_singleton.1 hx]; exact Nat.lt_succ_self _
/-- A map of the call's own, as a function. -/
def smap (b : Nat) (m : ByteArray → Option Value) : HObj where
  foot := some b
  ok w := ∃ es clock, w.heap[b]? = some (.map es clock) ∧ StrKeys es.toList ∧ (∀ k, lk es.toList k = m k) ∧ MBk es.toList clock
  stay w w' h hk := by
    obtain ⟨es, clock, h1, h2⟩ := hk
    exact ⟨es, clock, (h b rfl).trans h1, h2⟩
  lt w k hk hf := by
    cases hf
    obtain ⟨es, clock, h1, _⟩ := hk
    exact (Array.getElem?_eq_some_iff.1 h1).1

theorem sameNow_string (a b : ByteArray) : Instr.sameNow .string (.string a) (.string b) = some (decide (a = b)) := by
  obtain ⟨r, h1, h2⟩ := MapKept.sameNow_of_keys (d := .string) (a := .string a) (b := .string b) (by simp [MapKept.IsKey]) (by simp [MapKept.IsKey])
  rw [h1]
  congr 1
  rw [Bool.eq_iff_iff, h2]
  simp

theorem find_str (k : ByteArray) : ∀ (es : List MapEntry) (i : Nat), StrKeys es → ∃ r, Instr.findNow .string (.string k) es i = some r ∧
    ((r = none ∧ lk es k = none) ∨ ∃ j v, r = some (i + j, v) ∧ lk es k = some v ∧ (∃ e, es[j]? = some e ∧ e.key = .string k) ∧
      ∀ (g : MapEntry → MapEntry) (u : Value), (∀ e, (g e).val = u) → (∀ e, e.key = .string k → (g e).key = .string k) → ∀ k', lk (es.modify j g) k' = if k' = k then some u else lk es k')
  | [], i, _ => ⟨none, rfl, .inl ⟨rfl, rfl⟩⟩
  | e :: es, i, h => by
    obtain ⟨a, ha⟩ := h e (by simp)
    by_cases hk : k = a
    · subst hk
      refine ⟨some (i, e.val), by simp [Instr.findNow, ha, sameNow_string], .inr ⟨0, e.val, rfl, by simp [lk, ha, keyIs], ⟨e, rfl, ha⟩, fun g u hg hg2 k' => ?_⟩⟩
      by_cases hk' : k' = k
      · subst hk'
        simp [lk, hg2 e ha, hg, keyIs]
      · have h1 : ¬ (k = k') := fun e => hk' e.symm
        simp [lk, hg2 e ha, ha, h1, hk', keyIs]
    · obtain ⟨r, hr, hd⟩ := find_str k es (i + 1) fun e he => h e (by simp [he])
      have hak : ¬ a = k := fun e => hk e.symm
      refine ⟨r, by simp [Instr.findNow, ha, sameNow_string, hk, hr], ?_⟩
      rcases hd with ⟨h1, h2⟩ | ⟨j, v, h1, h2, h3, h4⟩
      · exact .inl ⟨h1, by simp [lk, ha, hak, h2, keyIs]⟩
      · refine .inr ⟨j + 1, v, by rw [h1]; congr 2; omega, by simp [lk, ha, hak, h2, keyIs], by simpa using h3, fun g u hg hg2 k' => ?_⟩
        have := h4 g u hg hg2 k'
        simp only [List.modify_succ_cons, lk, ha, this, keyIs]
        by_cases hk' : k' = k
        · subst hk'; simp [hak]
        · simp [hk']

theorem lk_push (es : List MapEntry) (e : MapEntry) (k : ByteArray) (hk : e.key = .string k) (hn : lk es k = none) (k' : ByteArray) : lk (es ++ [e]) k' = if k' = k then some e.val else lk es k' := by
  induction es with
  | nil =>
    by_cases h : k' = k
    · subst h; simp [lk, hk, keyIs]
    · have : ¬ k = k' := fun e => h e.symm
      simp [lk, hk, h, this, keyIs]
  | cons x es ih =>
    simp only [lk] at hn
    split at hn
    · cases hn
    · rename_i hx
      simp only [List.cons_append, lk, ih hn]
      by_cases h : k' = k
      · subst h; simp [hx]
      · simp [h]

theorem checkKey_string {ty : TypeId} (hk : P.underlying ty = some .string) (b : Bool) (k : ByteArray) (w : World) : (Instr.checkKey b 10000 ty (.string k)).run P w = .ok () w := by
  unfold Instr.checkKey
  simp [Sem.run_bind, run_underlying hk]

theorem findKey_string {ty : TypeId} (hk : P.underlying ty = some .string) {k : ByteArray} {es : List MapEntry} {r : Option (Nat × Value)} (h : Instr.findNow .string (.string k) es 0 = some r) (w : World) : (Instr.findKey ty (.string k) es).run P w = .ok r w := by
  unfold Instr.findKey
  simp [Sem.run_bind, run_underlying hk, h]

theorem o_makemap {ty : TypeId} (hS : St c w σ ms)
    (h : ∀ b w', St c w' σ (smap b (fun _ => none) :: ms) → wpList P ops Q rest (mk n (upd f d (.map (some b)))) w') : wpList P ops Q (⟨some d, .makeMap ty none, t, p, af, none⟩ :: rest) (mk n f) w := by
  refine o_val rfl rfl (v := .map (some w.heap.size)) (w' := w.alloc (.map #[] 0)) ?_ ?_
  · simp [execOp, Instr.makeMap]
  · refine h _ _ (hS.add (alloc_keeps w _) ⟨#[], 0, ?_, by simp [StrKeys], fun k => rfl, by simp [MBk]⟩ (by rintro k ⟨⟩; exact Nat.le_refl _))
    exact heap_alloc_new _ _

/-- m[k], the element's zero value where the key is not there. -/
theorem run_look {ty kt et : TypeId} {b : Nat} {m : ByteArray → Option Value} {k : ByteArray} {z : Value} (hu : P.underlying ty = some (.map kt et)) (hk : P.underlying kt = some .string) (hz : ∀ w, (zeroValue et).run P w = .ok z w) (ho : (smap b m).ok w) (cok : Bool) :
    (Instr.lookup ty (.map (some b)) (.string k) cok).run P w = .ok (if cok then .tuple #[(m k).getD z, .bool (m k).isSome] else (m k).getD z) w := by
  obtain ⟨es, clock, h1, h2, h3, _⟩ := ho
  obtain ⟨r, hr, hd⟩ := find_str k es.toList 0 h2
  rw [h3] at hd
  unfold Instr.lookup
  rcases hd with ⟨rfl, hm⟩ | ⟨j, v, rfl, hm, _⟩
  · cases cok <;> simp [Sem.run_bind, run_underlying hu, MapKept.run_getObj_map h1, checkKey_string hk, findKey_string hk hr, hz, hm]
  · cases cok <;> simp [Sem.run_bind, run_underlying hu, MapKept.run_getObj_map h1, checkKey_string hk, findKey_string hk hr, hm]

theorem o_look {ty kt et : TypeId} {x y : Operand} {b i : Nat} {m : ByteArray → Option Value} {k : ByteArray} {z v : Value} (hS : St c w σ ms) (hx : ev n f x = .map (some b)) (hy : ev n f y = .string k) (hi : ms[i]? = some (smap b m))
    (hu : P.underlying ty = some (.map kt et)) (hk : P.underlying kt = some .string) (hz : ∀ w, (zeroValue et).run P w = .ok z w) (hv : (m k).getD z = v)
    (h : wpList P ops Q rest (mk n (upd f d v)) w) : wpList P ops Q (⟨some d, .lookup ty x y false, t, p, af, none⟩ :: rest) (mk n f) w :=
  o_val rfl rfl (by subst hv; simp only [execOp, hx, hy, Sem.run_bind, run_look hu hk hz (hS.get hi) false, Result.andThen_ok]; rfl) h
theorem o_look_ok {ty kt et : TypeId} {x y : Operand} {b i : Nat} {m : ByteArray → Option Value} {k : ByteArray} {z v : Value} {r : Bool} (hS : St c w σ ms) (hx : ev n f x = .map (some b)) (hy : ev n f y = .string k) (hi : ms[i]? = some (smap b m))
    (hu : P.underlying ty = some (.map kt et)) (hk : P.underlying kt = some .string) (hz : ∀ w, (zeroValue et).run P w = .ok z w) (hv : (m k).getD z = v) (hr : (m k).isSome = r)
    (h : wpList P ops Q rest (mk n (upd f d (.tuple #[v, .bool r]))) w) : wpList P ops Q (⟨some d, .lookup ty x y true, t, p, af, none⟩ :: rest) (mk n f) w :=
  o_val rfl rfl (by subst hv; subst hr; simp only [execOp, hx, hy, Sem.run_bind, run_look hu hk hz (hS.get hi) true, Result.andThen_ok]; rfl) h

theorem run_put {ty kt et : TypeId} {b : Nat} {m : ByteArray → Option Value} {k : ByteArray} {v : Value} (hu : P.underlying ty = some (.map kt et)) (hk : P.underlying kt = some .string) (ho : (smap b m).ok w) :
    ∃ w', (Instr.mapUpdate ty (.map (some b)) (.string k) v).run P w = .ok () w' ∧ Keeps [b] w w' ∧ (smap b (fun k' => if k' = k then some v else m k')).ok w' := by
  obtain ⟨es, clock, h1, h2, h3, h4⟩ := ho
  have hlt : b < w.heap.size := (Array.getElem?_eq_some_iff.1 h1).1
  obtain ⟨r, hr, hd⟩ := find_str k es.toList 0 h2
  have hkeep : ∀ o : Obj, Keeps [b] w { w with heap := w.heap.setIfInBounds b o } := fun o =>
    ⟨rfl, rfl, rfl, by simp, fun j hj hm => by
      show (w.heap.setIfInBounds b o)[j]? = _
      rw [Array.getElem?_setIfInBounds, if_neg (by intro e; exact hm (by simp [e]))]⟩
  have hget : ∀ o : Obj, ({ w with heap := w.heap.setIfInBounds b o } : World).heap[b]? = some o := fun o => by
    show (w.heap.setIfInBounds b o)[b]? = _
    rw [Array.getElem?_setIfInBounds, if_pos rfl, if_pos hlt]
  rcases hd with ⟨rfl, hm⟩ | ⟨j, v0, rfl, hm, ⟨e, he, hek⟩, hg⟩
  · refine ⟨_, ?_, hkeep (.map (es.push { key := .string k, val := v, born := clock }) (clock + 1)), ⟨_, _, hget _, ?_, fun k' => ?_, ?_⟩⟩
    · unfold Instr.mapUpdate
      simp [Sem.run_bind, run_underlying hu, MapKept.run_getObj_map h1, checkKey_string hk, findKey_string hk hr, MapKept.run_setObj_map _ h1]
    · intro e he
      simp only [Array.toList_push, List.mem_append, List.mem_singleton] at he
      rcases he with he | rfl
      · exact h2 e he
      · exact ⟨k, rfl⟩
    · rw [Array.toList_push, lk_push _ _ k rfl hm, h3]
    · rw [Array.toList_push]; exact h4.push hm v
  · have hkt : ∀ w, (Instr.keyThatStays (((es[j]?).map (·.key)).getD (.string k)) (.string k)).run P w = .ok (.string k) w := fun w => by
      have : es[j]? = some e := by rw [← he]; simp
      rw [this]
      simp only [Option.map_some, Option.getD_some, hek]
      unfold Instr.keyThatStays
      have hkk : (k == k) = true := by simpa [Instr.sameNow] using sameNow_string k k
      simp [Instr.sameBits, hkk]
    refine ⟨_, ?_, hkeep (.map (es.modify j fun e => { e with key := .string k, val := v }) clock), ⟨_, _, hget _, ?_, fun k' => ?_, ?_⟩⟩
    · unfold Instr.mapUpdate
      rw [Nat.zero_add] at hr
      simp [Sem.run_bind, run_underlying hu, MapKept.run_getObj_map h1, checkKey_string hk, findKey_string hk hr, hkt, MapKept.run_setObj_map _ h1]
    · intro e' he'
      rw [Array.toList_modify] at he'
      obtain ⟨q, hq⟩ := List.mem_iff_getElem?.1 he'
      rw [List.getElem?_modify] at hq
      simp only [Option.map_eq_map, Option.map_eq_some_iff] at hq
      obtain ⟨x, hx, rfl⟩ := hq
      split
      · exact ⟨k, rfl⟩
      · exact h2 x (List.mem_of_getElem? hx)
    · rw [Array.toList_modify, hg _ v (fun _ => rfl) (fun _ _ => rfl), h3]
    · rw [Array.toList_modify]
      have m1 := modify_map (es := es.toList) (j := j) (·.key) (fun e : MapEntry => { e with key := .string k, val := v }) (fun e' he' => by rw [he] at he'; cases he'; exact hek.symm)
      have m2 := modify_map (es := es.toList) (j := j) (·.born) (fun e : MapEntry => { e with key := .string k, val := v }) (fun _ _ => rfl)
      refine ⟨?_, ?_, ?_⟩
      · rw [m1]; exact h4.1
      · rw [m2]; exact h4.2.1
      · rw [m2]; exact h4.2.2

theorem o_put {ty kt et : TypeId} {x y u : Operand} {b i : Nat} {m : ByteArray → Option Value} {k : ByteArray} {v : Value} (hS : St c w σ ms) (hx : ev n f x = .map (some b)) (hy : ev n f y = .string k) (hv : ev n f u = v) (hi : ms[i]? = some (smap b m))
    (hu : P.underlying ty = some (.map kt et)) (hk : P.underlying kt = some .string) (hms : ms.set i (smap b (fun k' => if k' = k then some v else m k')) = ms')
    (h : ∀ w', St c w' σ ms' → wpList P ops Q rest (mk n f) w') : wpList P ops Q (⟨none, .mapUpdate ty x y u, t, p, af, none⟩ :: rest) (mk n f) w := by
  subst hv
  obtain ⟨w', hr, hkp, ho⟩ := run_put (k := k) (v := ev n f u) hu hk (hS.get hi)
  refine o_skip rfl rfl (by simp only [execOp, hx, hy, Sem.run_bind, hr, Result.andThen_ok]; rfl) (h _ (hS.step hi hkp ho (by rintro k ⟨⟩; exact .inl rfl) hms hS.view.none_of_ge))
/-! A map by what its elements stand for. -/
theorem smap_congr {b : Nat} {m m' : ByteArray → Option Value} (h : ∀ k, m k = m' k) : smap b m = smap b m' := by
  have : m = m' := funext h
  rw [this]
def emap {α : Type} (b : Nat) (enc : α → Value) (F : ByteArray → Option α) : HObj := smap b (fun k => (F k).map enc)
theorem emap_put {α : Type} (b : Nat) (enc : α → Value) (F : ByteArray → Option α) (k : ByteArray) (y : α) : smap b (fun k' => if k' = k then some (enc y) else (F k').map enc) = emap b enc (put F k y) :=
  smap_congr fun k' => by unfold put; split <;> simp [*]
theorem o_emake {α : Type} {ty : TypeId} (enc : α → Value) (hS : St c w σ ms)
    (h : ∀ b w', St c w' σ (emap b enc (fun _ => none) :: ms) → wpList P ops Q rest (mk n (upd f d (.map (some b)))) w') : wpList P ops Q (⟨some d, .makeMap ty none, t, p, af, none⟩ :: rest) (mk n f) w :=
  o_makemap hS fun b w' h' => h b w' h'
theorem o_elook {α : Type} {enc : α → Value} {F : ByteArray → Option α} {ty kt et : TypeId} {x y : Operand} {b i : Nat} {k : ByteArray} {z v : Value} (hS : St c w σ ms) (hx : ev n f x = .map (some b)) (hy : ev n f y = .string k) (hi : ms[i]? = some (emap b enc F))
    (hu : P.underlying ty = some (.map kt et)) (hk : P.underlying kt = some .string) (hz : ∀ w, (zeroValue et).run P w = .ok z w) (hv : ((F k).map enc).getD z = v)
    (h : wpList P ops Q rest (mk n (upd f d v)) w) : wpList P ops Q (⟨some d, .lookup ty x y false, t, p, af, none⟩ :: rest) (mk n f) w :=
  o_look hS hx hy hi hu hk hz hv h
theorem o_elook_ok {α : Type} {enc : α → Value} {F : ByteArray → Option α} {ty kt et : TypeId} {x y : Operand} {b i : Nat} {k : ByteArray} {z v : Value} {r : Bool} (hS : St c w σ ms) (hx : ev n f x = .map (some b)) (hy : ev n f y = .string k) (hi : ms[i]? = some (emap b enc F))
    (hu : P.underlying ty = some (.map kt et)) (hk : P.underlying kt = some .string) (hz : ∀ w, (zeroValue et).run P w = .ok z w) (hv : ((F k).map enc).getD z = v) (hr : (F k).isSome = r)
    (h : wpList P ops Q rest (mk n (upd f d (.tuple #[v, .bool r]))) w) : wpList P ops Q (⟨some d, .lookup ty x y true, t, p, af, none⟩ :: rest) (mk n f) w :=
  o_look_ok hS hx hy hi hu hk hz hv (by rw [← hr]; simp) h
theorem o_eput {α : Type} {enc : α → Value} {F : ByteArray → Option α} {y0 : α} {ty kt et : TypeId} {x y u : Operand} {b i : Nat} {k : ByteArray} (hS : St c w σ ms) (hx : ev n f x = .map (some b)) (hy : ev n f y = .string k) (hv : ev n f u = enc y0) (hi : ms[i]? = some (emap b enc F))
    (hu : P.underlying ty = some (.map kt et)) (hk : P.underlying kt = some .string) (hms : ms.set i (emap b enc (put F k y0)) = ms')
    (h : ∀ w', St c w' σ ms' → wpList P ops Q rest (mk n f) w') : wpList P ops Q (⟨none, .mapUpdate ty x y u, t, p, af, none⟩ :: rest) (mk n f) w :=
  o_put hS hx hy hv hi hu hk (by rw [emap_put]; exact hms) h
theorem o_eins {α : Type} {enc : α → Value} {F : ByteArray → Option α} {y0 : α} {ty kt et : TypeId} {x y u : Operand} {b i : Nat} {k : ByteArray} (hS : St c w σ ms) (hx : ev n f x = .map (some b)) (hy : ev n f y = .string k) (hv : ev n f u = enc y0) (hi : ms[i]? = some (emap b enc F))
    (hu : P.underlying ty = some (.map kt et)) (hk : P.underlying kt = some .string) (hms : ms.set i (emap b enc (put F k y0)) = ms')
    (h : ∀ w', St c w' σ ms' → wpList P ops Q rest (mk n f) w') : wpList P ops Q (⟨none, .insert ty x y u, t, p, af, none⟩ :: rest) (mk n f) w := by
  subst hms
  obtain ⟨w', hr, hkp, ho⟩ := run_put (k := k) (v := ev n f u) hu hk (hS.get hi)
  rw [hv] at ho hr
  rw [emap_put] at ho
  refine o_skip rfl rfl (by simp only [execOp, hx, hy, hv, Sem.run_bind, hr, Result.andThen_ok]; rfl) (h _ (hS.step hi hkp ho (by rintro k ⟨⟩; exact .inl rfl) rfl hS.view.none_of_ge))

/-! Strings compared. -/
open Lk in
theorem less_blt (a b : ByteArray) : Op.bytesLess a.toList b.toList = decide (blt a b) := by
  rw [Go.Proofs.bytesLess_eq, Lib.toList_data, Lib.toList_data]; rfl
open Lk in
theorem o_lsss {xt yt : TypeId} {x y : Operand} {a b : ByteArray} {r : Bool} (hx : ev n f x = .string a) (hy : ev n f y = .string b) (hr : decide (blt a b) = r)
    (h : wpList P ops Q rest (mk n (upd f d (.bool r))) w) : wpList P ops Q (⟨some d, .binOp .lss xt x y yt, t, p, af, none⟩ :: rest) (mk n f) w :=
  o_val rfl rfl (by subst hr; simp [execOp, hx, hy, eqGuard, binOp, Op.stringOp, less_blt]) h
open Lk in
theorem geq_blt (a b : ByteArray) : (!(decide (blt a b) || decide (a = b))) = decide (blt b a) := by
  by_cases h : blt a b
  · simp [h, blt_asymm h]
  · by_cases h2 : a = b
    · subst h2; simp [blt_irrefl]
    · have : blt b a := Classical.byContradiction fun h3 => h2 (blt_tri h h3)
      simp [h, h2, this]
open Lk in
theorem o_gtrs {xt yt : TypeId} {x y : Operand} {a b : ByteArray} {r : Bool} (hx : ev n f x = .string a) (hy : ev n f y = .string b) (hr : decide (blt b a) = r)
    (h : wpList P ops Q rest (mk n (upd f d (.bool r))) w) : wpList P ops Q (⟨some d, .binOp .gtr xt x y yt, t, p, af, none⟩ :: rest) (mk n f) w :=
  o_val rfl rfl (by subst hr; rw [← geq_blt]; simp [execOp, hx, hy, eqGuard, binOp, Op.stringOp, less_blt, bytes_beq]) h
open Lk in
theorem o_leqs {xt yt : TypeId} {x y : Operand} {a b : ByteArray} {r : Bool} (hx : ev n f x = .string a) (hy : ev n f y = .string b) (hr : (!decide (blt b a)) = r)
    (h : wpList P ops Q rest (mk n (upd f d (.bool r))) w) : wpList P ops Q (⟨some d, .binOp .leq xt x y yt, t, p, af, none⟩ :: rest) (mk n f) w :=
  o_val rfl rfl (by subst hr; rw [← geq_blt]; simp [execOp, hx, hy, eqGuard, binOp, Op.stringOp, less_blt, bytes_beq]) h
open Lk in
theorem o_geqs {xt yt : TypeId} {x y : Operand} {a b : ByteArray} {r : Bool} (hx : ev n f x = .string a) (hy : ev n f y = .string b) (hr : (!decide (blt a b)) = r)
    (h : wpList P ops Q rest (mk n (upd f d (.bool r))) w) : wpList P ops Q (⟨some d, .binOp .geq xt x y yt, t, p, af, none⟩ :: rest) (mk n f) w :=
  o_val rfl rfl (by subst hr; simp [execOp, hx, hy, eqGuard, binOp, Op.stringOp, less_blt]) h
open Lk in
theorem o_maxs {tx ty : TypeId} {x y : Operand} {a b r : ByteArray} (hx : ev n f x = .string a) (hy : ev n f y = .string b) (hr : (if blt a b then b else a) = r)
    (h : wpList P ops Q rest (mk n (upd f d (.string r))) w) : wpList P ops Q (⟨some d, .call ⟨.builtin .max, #[x, y], #[tx, ty]⟩, t, p, af, none⟩ :: rest) (mk n f) w :=
  o_val rfl rfl (by subst hr; simp [execOp, hx, hy, resolve, invoke, builtin, Builtin.max_, Builtin.max2, Op.stringOp, less_blt, asBool]) h
open Lk in
theorem o_mins {tx ty : TypeId} {x y : Operand} {a b r : ByteArray} (hx : ev n f x = .string a) (hy : ev n f y = .string b) (hr : (if blt b a then b else a) = r)
    (h : wpList P ops Q rest (mk n (upd f d (.string r))) w) : wpList P ops Q (⟨some d, .call ⟨.builtin .min, #[x, y], #[tx, ty]⟩, t, p, af, none⟩ :: rest) (mk n f) w :=
  o_val rfl rfl (by
    have hm : (if blt b a then b else a) = (if blt a b ∨ a = b then a else b) := by
      have h1 := geq_blt a b
      by_cases h2 : blt b a
      · rw [if_pos h2, if_neg (by intro h3; simp [h2] at h1; exact h3.elim h1.1 h1.2)]
      · rw [if_neg h2, if_pos (by simp [h2] at h1; by_cases h4 : blt a b; exact .inl h4; exact .inr (h1 h4))]
    subst hr; rw [hm]; simp [execOp, hx, hy, resolve, invoke, builtin, Builtin.min_, Builtin.min2, Op.stringOp, less_blt, bytes_beq, asBool]) h
/-! Encodings of links and of texts. -/
def encLk (x : Lk.L3) : List Value := [.string x.1, .string x.2.1, .int .i64 x.2.2]
theorem encLk_len (x : Lk.L3) : (encLk x).length = 3 := rfl
def encTx (x : ByteArray) : List Value := [.string x]
theorem encTx_len (x : ByteArray) : (encTx x).length = 1 := rfl
theorem encTx_one (x : ByteArray) : ∀ u ∈ encTx x, u.oneCell' = true := by
  intro u hu; simp [encTx] at hu; subst hu; rfl
theorem encLk_one (x : Lk.L3) : ∀ u ∈ encLk x, u.oneCell' = true := by
  intro u hu; simp [encLk] at hu; rcases hu with rfl | rfl | rfl <;> rfl
theorem o_eqlb {xt yt : TypeId} {x y : Operand} {a b r : Bool} (hu : P.underlying xt = some .bool) (hx : ev n f x = .bool a) (hy : ev n f y = .bool b) (hr : (a == b) = r)
    (h : wpList P ops Q rest (mk n (upd f d (.bool r))) w) : wpList P ops Q (⟨some d, .binOp .eql xt x y yt, t, p, af, none⟩ :: rest) (mk n f) w :=
  o_val rfl rfl (by subst hr; simp [execOp, hx, hy, eqGuard, run_eql_bool _ _ _ _ hu]) h
end Go.Fl
