/- One rule an operation, over frames as functions: memory. Conditions: none; every rule speaks of any program. -/
import Derived.Test.YtkfcnibjlmiboaaFlOps
namespace Go.Fl
open Go Go.RowKit

variable {P : Program} {ops : Array Oper} {Q : Exit → Act → World → Prop} {rest : List Oper} {n : Nat} {f : Fr} {w w' : World} {d : Nat} {t : TypeId} {p : String} {af : Array Edge}
variable {c : Cx} {σ : Hv} {ms ms' : List HObj}

theorem addr_lit (b o k : Nat) : (⟨b, o, none⟩ : Addr).add k = ⟨b, o + k, none⟩ := by unfold Addr.add; split <;> simp_all
theorem addr_add (a : Addr) (x y : Nat) : (a.add x).add y = a.add (x + y) := by
  unfold Addr.add
  by_cases hx : x = 0
  · subst hx; simp
  · by_cases hy : y = 0
    · subst hy; simp [hx]
    · simp [hx, hy, Nat.add_assoc]

/-- A row of cells that lies in the world at an address. -/
def Row (w : World) (a : Addr) (cs : List Value) : Prop := ∀ (j : Nat) v, cs[j]? = some v → w.cell? (a.add j) = some v
/-- The same, of a view. -/
def VRow (σ : Hv) (a : Addr) (cs : List Value) : Prop := ∀ (j : Nat) v, cs[j]? = some v → σ.cell (a.add j) = some v
theorem VRow.row {a : Addr} {cs : List Value} (h : VRow σ a cs) (hv : View σ w) : Row w a cs := fun j v hj => hv.cell (h j v hj)
theorem VRow.mono {τ : Hv} {a : Addr} {cs : List Value} (h : VRow σ a cs) (hs : Sub σ τ) : VRow τ a cs := fun j v hj => hs.cell (h j v hj)
theorem blk_row {b T : Nat} {cs : List Value} (h : (blk b T cs).ok w) : Row w ⟨b, 0, none⟩ cs := by
  intro j v hj
  have h' : w.heap[b]? = some (.cells cs.toArray T (0, 0)) := h
  rw [addr_lit, Nat.zero_add, cell_of_row w b j _ T (0, 0) h']
  simpa using hj
theorem Row.part {a : Addr} {cs ds : List Value} {o k : Nat} (h : Row w a cs) (hd : (cs.drop o).take k = ds) : Row w (a.add o) ds := by
  intro j v hj
  subst hd
  rw [addr_add]
  refine h (o + j) v ?_
  rw [List.getElem?_take] at hj
  split at hj
  · rw [List.getElem?_drop] at hj; exact hj
  · cases hj
theorem VRow.part {a : Addr} {cs ds : List Value} {o k : Nat} (h : VRow σ a cs) (hd : (cs.drop o).take k = ds) : VRow σ (a.add o) ds := by
  intro j v hj
  subst hd
  rw [addr_add]
  refine h (o + j) v ?_
  rw [List.getElem?_take] at hj
  split at hj
  · rw [List.getElem?_drop] at hj; exact hj
  · cases hj

/-! Loads. -/
theorem o_load {ty : TypeId} {x : Operand} {a : Addr} {v : Value} (hx : ev n f x = .pointer (some a)) (hagg : ∀ w, (isAgg ty).run P w = .ok false w) (hc : w.cell? a = some v)
    (h : wpList P ops Q rest (mk n (upd f d v)) w) : wpList P ops Q (⟨some d, .load ty x, t, p, af, none⟩ :: rest) (mk n f) w :=
  o_val rfl rfl (by simp [execOp, hx, Instr.loadAt, Instr.sureAddr, loadVar, hagg, load, Sem.run, hc]) h
theorem o_loadA {ty : TypeId} {x : Operand} {a : Addr} {cs : List Value} {k : Nat} (hx : ev n f x = .pointer (some a)) (hagg : ∀ w, (isAgg ty).run P w = .ok true w) (hs : ∀ w, (sizeOf ty).run P w = .ok k w)
    (hl : cs.length = k) (hc : Row w a cs)
    (h : wpList P ops Q rest (mk n (upd f d (.agg cs.toArray))) w) : wpList P ops Q (⟨some d, .load ty x, t, p, af, none⟩ :: rest) (mk n f) w :=
  o_val rfl rfl (by
    have hr := run_loadCells_list (P := P) w a cs hc
    rw [hl] at hr
    simp [execOp, hx, Instr.loadAt, Instr.sureAddr, loadVar, hagg, hs, hr]) h

theorem Row.cell {a : Addr} {cs : List Value} {v : Value} (h : Row w a cs) (j : Nat) (hj : cs[j]? = some v) {a' : Addr} (ha : a.add j = a') : w.cell? a' = some v := ha ▸ h j v hj
theorem VRow.cell {a : Addr} {cs : List Value} {v : Value} (h : VRow σ a cs) (hv : View σ w) (j : Nat) (hj : cs[j]? = some v) {a' : Addr} (ha : a.add j = a') : w.cell? a' = some v := ha ▸ hv.cell (h j v hj)
/-- A cell of a block that is known whole. -/
theorem St.cell (h : St c w σ ms) {i b T o : Nat} {cs : List Value} {v : Value} (hi : ms[i]? = some (blk b T cs)) (ho : cs[o]? = some v) : w.cell? ⟨b, o, none⟩ = some v :=
  (blk_row (h.get hi)).cell o ho (by rw [addr_lit, Nat.zero_add])

/-! Stores into a block that is known whole. -/
def splice (cs : List Value) (o : Nat) (vs : List Value) : List Value := cs.take o ++ vs ++ cs.drop (o + vs.length)
theorem splice_one (cs : List Value) (o : Nat) (v : Value) (h : o < cs.length) : splice cs o [v] = cs.set o v := by
  simp only [splice, List.length_singleton]
  rw [List.set_eq_take_append_cons_drop, if_pos h]
  simp

theorem setRow_keeps {b T : Nat} {cs : Array Value} (_h : w.heap[b]? = some (.cells cs T (0, 0))) (cs' : Array Value) : Keeps [b] w (w.setRow b cs') :=
  ⟨rfl, rfl, rfl, by simp, fun k _ hm => setRow_other w b k cs' (by simpa using hm)⟩

theorem o_store {ty : TypeId} {x y : Operand} {b T o k : Nat} {v : Value} {cs vs cs' : List Value} {i : Nat} (hS : St c w σ ms) (hx : ev n f x = .pointer (some ⟨b, o, none⟩)) (hy : ev n f y = v)
    (hvs : v.cells.toList = vs) (hs : ∀ w, (sizeOf ty).run P w = .ok k w) (hl : vs.length = k) (h1 : ∀ u ∈ vs, u.oneCell' = true)
    (hi : ms[i]? = some (blk b T cs)) (ho : o + k ≤ cs.length) (hcs : splice cs o vs = cs') (hms : ms.set i (blk b T cs') = ms')
    (h : ∀ w', St c w' σ ms' → wpList P ops Q rest (mk n f) w') : wpList P ops Q (⟨none, .store ty x y, t, p, af, none⟩ :: rest) (mk n f) w := by
  have hb : w.heap[b]? = some (.cells cs.toArray T (0, 0)) := hS.get hi
  have hr := run_storeCells_at P b o T vs 0 cs.toArray w hb (by simpa [hl] using ho) h1
  have hsz : v.cells.size = k := by rw [← Array.length_toList, hvs, hl]
  refine o_skip rfl rfl (w' := w.setRow b cs'.toArray) ?_ ?_
  · subst hcs
    simp only [Nat.add_zero] at hr
    have h2 : (storeVar ty ⟨b, o, none⟩ v).run P w = .ok () (w.setRow b (splice cs o vs).toArray) := by
      simp only [storeVar, Sem.run_bind, hs, Result.andThen_ok, hsz, hvs]
      simpa [splice] using hr
    simp [execOp, hx, hy, Instr.storeAt, Instr.sureAddr, h2]
  · refine h _ (hS.step (o' := blk b T cs') hi (setRow_keeps hb _) (setRow_heap w b cs.toArray _ T _ hb) (fun k hk => .inl hk) hms hS.view.none_of_ge)

theorem cells_agg (l : List Value) : (Value.agg l.toArray).cells.toList = l := rfl
theorem ones {vs : List Value} (h : vs.all (fun u => u.oneCell') = true) : ∀ u ∈ vs, u.oneCell' = true := by
  simpa using h
theorem St.drop (h : St c w σ ms) (i : Nat) (hms : ms.eraseIdx i = ms') : St c w σ ms' := h.sublist (hms ▸ List.eraseIdx_sublist _ _)

/-! New blocks. -/
theorem alloc_keeps (w : World) (o : Obj) : Keeps [] w (w.alloc o) := ⟨rfl, rfl, rfl, by simp, fun k hk _ => Below.heap_alloc w _ k hk⟩

theorem o_box {ty : TypeId} {x : Operand} {v : Value} {cs : List Value} (hS : St c w σ ms) (hx : ev n f x = v) (hcs : v.cells.toList = cs)
    (h : ∀ b w', St c w' σ (blk b ty cs :: ms) → wpList P ops Q rest (mk n (upd f d (.pointer (some ⟨b, 0, none⟩)))) w') : wpList P ops Q (⟨some d, .box ty x, t, p, af, none⟩ :: rest) (mk n f) w := by
  refine o_val rfl rfl (v := .pointer (some ⟨w.heap.size, 0, none⟩)) (w' := w.alloc (.cells v.cells ty)) ?_ ?_
  · simp [execOp, hx, Instr.box, newVar, newRow, newObj, Sem.run]
  · refine h _ _ (hS.add (alloc_keeps w _) ?_ (by rintro k ⟨⟩; exact Nat.le_refl _))
    show (w.alloc _).heap[w.heap.size]? = _
    rw [heap_alloc_new, ← hcs, Array.toArray_toList]
theorem o_alloc {ty : TypeId} {z : Value} {cs : List Value} (hS : St c w σ ms) (hz : ∀ w, (zeroValue ty).run P w = .ok z w) (hcs : z.cells.toList = cs)
    (h : ∀ b w', St c w' σ (blk b ty cs :: ms) → wpList P ops Q rest (mk n (upd f d (.pointer (some ⟨b, 0, none⟩)))) w') : wpList P ops Q (⟨some d, .alloc ty, t, p, af, none⟩ :: rest) (mk n f) w := by
  refine o_val rfl rfl (v := .pointer (some ⟨w.heap.size, 0, none⟩)) (w' := w.alloc (.cells z.cells ty)) ?_ ?_
  · simp [execOp, Instr.alloc, hz, newVar, newRow, newObj, Sem.run]
  · refine h _ _ (hS.add (alloc_keeps w _) ?_ (by rintro k ⟨⟩; exact Nat.le_refl _))
    show (w.alloc _).heap[w.heap.size]? = _
    rw [heap_alloc_new, ← hcs, Array.toArray_toList]
/-- A struct value out of its parts. -/
theorem o_build {ty : TypeId} {parts : Array (Nat × Operand)} {v : Value} (hb : ∀ w, (Instr.build ty (parts.map fun (i, x) => (i, ev n f x))).run P w = .ok v w)
    (h : wpList P ops Q rest (mk n (upd f d v)) w) : wpList P ops Q (⟨some d, .build ty parts, t, p, af, none⟩ :: rest) (mk n f) w :=
  o_val rfl rfl (by simp only [execOp, Sem.run_bind, hb, Result.andThen_ok]; rfl) h
/-- A slice out of its elements: a new block. -/
theorem o_bslice {ty e : TypeId} {len : Nat} {parts : Array (Nat × Operand)} {cs : List Value} (hS : St c w σ ms)
    (hb : ∀ w, (Instr.buildSlice ty len (parts.map fun (i, x) => (i, ev n f x))).run P w = .ok (.slice (some ⟨w.heap.size, 0, none⟩) len len) (w.alloc (.cells cs.toArray e)))
    (h : ∀ b w', St c w' σ (blk b e cs :: ms) → wpList P ops Q rest (mk n (upd f d (.slice (some ⟨b, 0, none⟩) len len))) w') : wpList P ops Q (⟨some d, .buildSlice ty len parts, t, p, af, none⟩ :: rest) (mk n f) w := by
  refine o_val rfl rfl (w' := w.alloc (.cells cs.toArray e)) (by simp only [execOp, Sem.run_bind, hb, Result.andThen_ok]; rfl) ?_
  refine h _ _ (hS.add (alloc_keeps w _) ?_ (by rintro k ⟨⟩; exact Nat.le_refl _))
  show (w.alloc _).heap[w.heap.size]? = _
  rw [heap_alloc_new]

/-- A block out of a slice literal as an owned slice. -/
theorem St.asVec (h : St c w σ ms) {i b T len size : Nat} {cs : List Value} (hi : ms[i]? = some (blk b T cs)) (hl : cs.length = len * size) (hm : len ≤ maxLen)
    (hms : ms.set i (vec (.slice (some ⟨b, 0, none⟩) len len) T size len cs) = ms') : St c w σ ms' := by
  refine h.step (o' := vec (.slice (some ⟨b, 0, none⟩) len len) T size len cs) hi (Keeps.refl _ _) ?_ (fun k hk => .inl hk) hms h.view.none_of_ge
  refine ⟨hl, .inr ⟨b, len, cs.toArray, rfl, Nat.zero_le _, h.get hi, Nat.le_refl _, hm, by simp [hl], ?_⟩⟩
  simp [← hl]

theorem made_one (z : Value) (k : Nat) : (madeCells #[z] k).toList = List.replicate k z := by
  apply List.ext_getElem
  · simp [madeCells]
  · intro i h1 h2
    simp [madeCells, Nat.mod_one]

/-- make([]T, k). -/
theorem o_make {ty e : TypeId} {l cc : Operand} {k size bytes : Nat} {i : TypeInfo} {z : Value} {L : Int} {xs : List Value} (hS : St c w σ ms) (hl : ev n f l = .int .i64 L) (hc : ev n f cc = .int .i64 L) (hL : L = (k : Int))
    (hu : P.underlying ty = some (.slice e)) (hi : P.info? e = some i) (hz : i.zero = some z) (hsz : i.size = size) (hby : i.bytes = bytes) (hb : bytes * k ≤ 281474976710656) (hm : k ≤ maxLen)
    (hxs : (madeCells z.cells (k * size)).toList = xs)
    (h : ∀ b w', St c w' σ (vec (.slice (some ⟨b, 0, none⟩) k k) e size k xs :: ms) → wpList P ops Q rest (mk n (upd f d (.slice (some ⟨b, 0, none⟩) k k))) w') :
    wpList P ops Q (⟨some d, .makeSlice ty l cc, t, p, af, none⟩ :: rest) (mk n f) w := by
  subst hL; subst hby; subst hxs
  obtain ⟨w', hr, ho, hg⟩ := run_make_full (P := P) w w.heap.size ty e i z size hu hi hz hsz .i64 .i64 k hb hm (Nat.le_refl _)
  refine o_val rfl rfl (by simp only [execOp, hl, hc, Sem.run_bind, hr, Result.andThen_ok]; rfl) (h _ _ (hS.add ⟨hg.os, hg.tape, hg.output, hg.size, fun k hk _ => hg.block k hk (by simp)⟩ ?_ (by rintro k ⟨⟩; exact Nat.le_refl _)))
  exact ⟨ho.1, ho.2.imp id fun ⟨g, cap, cur, h1, _, h3⟩ => ⟨g, cap, cur, h1, Nat.zero_le _, h3⟩⟩

/-! Slices of the call's own. -/
theorem vec_shape {v : Value} {T size k : Nat} {xs : List Value} (h : (vec v T size k xs).ok w) : xs.length = k * size ∧ ((v = .slice none 0 0 ∧ k = 0) ∨ ∃ g cap, v = .slice (some ⟨g, 0, none⟩) k cap ∧ k ≤ cap ∧ cap ≤ maxLen) := by
  obtain ⟨h1, h2⟩ := h
  exact ⟨h1, h2.imp id fun ⟨g, cap, cur, hv, _, _, hk, hm, _⟩ => ⟨g, cap, hv, hk, hm⟩⟩
theorem vec_pos {v : Value} {T size k : Nat} {xs : List Value} (h : (vec v T size k xs).ok w) (hk : 0 < k) : ∃ g cap, v = .slice (some ⟨g, 0, none⟩) k cap := by
  rcases (vec_shape h).2 with ⟨_, h0⟩ | ⟨g, cap, hv, _⟩
  · omega
  · exact ⟨g, cap, hv⟩
theorem vec_any {v : Value} {T size k : Nat} {xs : List Value} (h : (vec v T size k xs).ok w) : ∃ a cap, v = .slice a k cap := by
  rcases (vec_shape h).2 with ⟨hv, rfl⟩ | ⟨g, cap, hv, _⟩
  · exact ⟨_, _, hv⟩
  · exact ⟨_, _, hv⟩
theorem vec_one {v : Value} {T size k : Nat} {xs : List Value} (h : (vec v T size k xs).ok w) : v.oneCell' = true := by
  obtain ⟨a, cap, rfl⟩ := vec_any h; rfl
theorem vec_row {g cap T size k : Nat} {xs : List Value} (h : (vec (.slice (some ⟨g, 0, none⟩) k cap) T size k xs).ok w) : Row w ⟨g, 0, none⟩ xs :=
  World.ownsRow.cells h rfl

theorem o_len_vec {st e : TypeId} {x : Operand} {v : Value} {T size k i : Nat} {xs : List Value} (hS : St c w σ ms) (hx : ev n f x = v) (hi : ms[i]? = some (vec v T size k xs)) (hu : P.underlying st = some (.slice e))
    (h : wpList P ops Q rest (mk n (upd f d (.int .i64 (k : Nat)))) w) : wpList P ops Q (⟨some d, .call ⟨.builtin .len, #[x], #[st]⟩, t, p, af, none⟩ :: rest) (mk n f) w := by
  obtain ⟨a, cap, rfl⟩ := vec_any (hS.get hi)
  exact o_len_slice hx hu h

theorem splice_take {cur xs vs : List Value} {N o : Nat} (h : cur.take N = xs) (ho : o + vs.length ≤ N) (hN : N ≤ cur.length) :
    (cur.take o ++ vs ++ cur.drop (o + vs.length)).take N = splice xs o vs := by
  subst h
  unfold splice
  rw [List.take_append, List.take_append, List.take_take, List.take_take]
  have e1 : min N o = o := by omega
  have e2 : min o N = o := by omega
  have e3 : (cur.take o).length = o := by simp; omega
  rw [e1, e2, e3, List.take_of_length_le (by omega : vs.length ≤ N - o), List.drop_take]
  congr 2
  simp only [List.length_append, e3]

/-- A store into an owned slice. -/
theorem o_store_vec {ty : TypeId} {x y : Operand} {g cap T size k o j : Nat} {v : Value} {xs vs xs' : List Value} {i : Nat} (hS : St c w σ ms) (hx : ev n f x = .pointer (some ⟨g, o, none⟩)) (hy : ev n f y = v)
    (hvs : v.cells.toList = vs) (hs : ∀ w, (sizeOf ty).run P w = .ok j w) (hl : vs.length = j) (h1 : ∀ u ∈ vs, u.oneCell' = true)
    (hi : ms[i]? = some (vec (.slice (some ⟨g, 0, none⟩) k cap) T size k xs)) (ho : o + j ≤ k * size) (hxs : splice xs o vs = xs') (hms : ms.set i (vec (.slice (some ⟨g, 0, none⟩) k cap) T size k xs') = ms')
    (h : ∀ w', St c w' σ ms' → wpList P ops Q rest (mk n f) w') : wpList P ops Q (⟨none, .store ty x y, t, p, af, none⟩ :: rest) (mk n f) w := by
  have hv := hS.get hi
  obtain ⟨hlen, hor⟩ := hv
  rcases hor with ⟨hbad, _⟩ | ⟨g', cap', cur, heq, _, hb, hk, hm, hcur, htake⟩
  · cases hbad
  · obtain ⟨rfl, rfl⟩ : g = g' ∧ cap = cap' := by simpa using heq
    have hle : k * size ≤ cap * size := Nat.mul_le_mul_right _ hk
    have hr := run_storeCells_at P g o T vs 0 cur w hb (by rw [hl, hcur]; omega) h1
    simp only [Nat.add_zero] at hr
    have hsz : v.cells.size = j := by rw [← Array.length_toList, hvs, hl]
    refine o_skip rfl rfl (w' := w.setRow g (cur.toList.take o ++ vs ++ cur.toList.drop (o + vs.length)).toArray) ?_ ?_
    · have h2 : (storeVar ty ⟨g, o, none⟩ v).run P w = .ok () (w.setRow g (cur.toList.take o ++ vs ++ cur.toList.drop (o + vs.length)).toArray) := by
        simp only [storeVar, Sem.run_bind, hs, Result.andThen_ok, hsz, hvs]
        simpa using hr
      simp [execOp, hx, hy, Instr.storeAt, Instr.sureAddr, h2]
    · refine h _ (hS.step (o' := vec (.slice (some ⟨g, 0, none⟩) k cap) T size k xs') hi (setRow_keeps hb _) ?_ (fun k hk => .inl hk) hms hS.view.none_of_ge)
      subst hxs
      refine ⟨?_, .inr ⟨g, cap, _, rfl, Nat.zero_le _, setRow_heap w g cur _ T _ hb, hk, hm, ?_, ?_⟩⟩
      · unfold splice; simp only [List.length_append, List.length_take, List.length_drop]; omega
      · simp only [List.size_toArray, List.length_append, List.length_take, List.length_drop, Array.length_toList]; omega
      · exact splice_take htake (by omega) (by simp; omega)

/-- What an append to an owned slice does. -/
theorem run_app {ty' st e : TypeId} {i : TypeInfo} {z : Value} {size bytes : Nat} (hu : P.underlying st = some (.slice e)) (hi : P.info? e = some i) (hz : i.zero = some z)
    (hsz : i.size = size) (hby : i.bytes = bytes) (hzs : z.cells.size = size) (hpos : 0 < size) {v : Value} {k : Nat} {xs : List Value} (hown : (vec v e size k xs).ok w)
    {a : Addr} {m cc : Nat} {news : List Value} (hl : news.length = m * size) (hnews : Row w a news) (h1 : ∀ u ∈ news, u.oneCell' = true) (hb : (k + m) * bytes ≤ 140737488355328) (h63 : k + m ≤ maxLen) :
    ∃ v' w', (Builtin.append_ #[st, st] ty' #[v, .slice (some a) m cc]).run P w = .ok v' w' ∧ (vec v' e size (k + m) (xs ++ news)).ok w' ∧ Keeps v.ownBlock.toList w w' ∧
      (∀ b, v'.ownBlock = some b → v.ownBlock = some b ∨ w.heap.size ≤ b) := by
  have up : ∀ {B : Nat} {w : World} {v' : Value} {k : Nat} {xs : List Value}, w.ownsRow B e size v' k xs → w.ownsRow 0 e size v' k xs := fun ⟨a1, a2⟩ => ⟨a1, a2.imp id fun ⟨g, cap, cur, h1, _, h3⟩ => ⟨g, cap, cur, h1, Nat.zero_le _, h3⟩⟩
  have kp : ∀ {w' : World}, w.grownBy w' v.ownBlock → Keeps v.ownBlock.toList w w' := fun hg => ⟨hg.os, hg.tape, hg.output, hg.size, fun b hbl hm => hg.block b hbl (fun e => hm (by rw [← e]; simp))⟩
  by_cases hnil : v = .slice none 0 0
  · subst hnil
    have hk : k = 0 := by
      rcases hown.2 with ⟨_, hk⟩ | ⟨_, _, _, hv, _⟩
      · exact hk
      · cases hv
    subst hk
    have hx : xs = [] := List.eq_nil_of_length_eq_zero (by simpa using hown.1)
    subst hx
    obtain ⟨v', w', hr, ho, hg, _⟩ := run_append_own (P := P) w w.heap.size st ty' e i z size bytes hu hi hz hsz hby hzs hpos _ 0 [] (World.ownsRow_nil w w.heap.size e size) a m cc news hl hnews h1 h63 hb (Nat.le_refl _)
    refine ⟨v', w', hr, up ho, kp hg, fun b hv' => .inr ?_⟩
    exact (World.ownsRow.lt ho b hv').1
  · obtain ⟨v', w', hr, ho, hg, _⟩ := run_append_own (P := P) w 0 st ty' e i z size bytes hu hi hz hsz hby hzs hpos v k xs hown a m cc news hl hnews h1 h63 hb (Nat.zero_le _)
    refine ⟨v', w', hr, ho, kp hg, ?_⟩
    rcases hown.2 with ⟨hv, _⟩ | ⟨g, cap, cur, rfl, _, hgc, hkc, hcm, hcs, htake⟩
    · exact absurd hv hnil
    · subst hsz; subst hby
      by_cases hroom : k + m ≤ cap
      · have hfit : k * i.size + news.length ≤ cur.size := by rw [hl, hcs, ← Nat.add_mul]; exact Nat.mul_le_mul_right _ hroom
        have hr2 := run_append_room (P := P) w st ty' e i hu hi g k cap cur hgc a m cc news hl hnews h1 hroom hfit
        rw [hr2] at hr
        injection hr with e1 _
        subst e1
        intro b hb'; left; exact hb'
      · have holds : ∀ j u, xs[j]? = some u → w.cell? ((⟨g, 0, none⟩ : Addr).add j) = some u := World.ownsRow.cells hown rfl
        have h63' : ((k + m : Nat) : Int) ≤ 9223372036854775807 := by simp only [maxLen] at h63; omega
        have hr2 := run_append_grow (P := P) w st ty' e i z hu hi hz ⟨g, 0, none⟩ k cap xs hown.1 holds a m cc news hl hnews (by omega) h63' (growslice_fits (by omega) hb)
        rw [hr2] at hr
        injection hr with e1 _
        subst e1
        intro b hb'; right
        cases hb'; exact Nat.le_refl _

theorem o_append {st e : TypeId} {x y : Operand} {i : TypeInfo} {z : Value} {size bytes : Nat} (hu : P.underlying st = some (.slice e)) (hi : P.info? e = some i) (hz : i.zero = some z)
    (hsz : i.size = size) (hby : i.bytes = bytes) (hzs : z.cells.size = size) (hpos : 0 < size) {v : Value} {k q : Nat} {xs xs' : List Value} (hS : St c w σ ms) (hx : ev n f x = v) (hq : ms[q]? = some (vec v e size k xs))
    {a : Addr} {m cc : Nat} {news : List Value} (hy : ev n f y = .slice (some a) m cc) (hl : news.length = m * size) (hnews : Row w a news) (h1 : ∀ u ∈ news, u.oneCell' = true) (hb : (k + m) * bytes ≤ 140737488355328) (h63 : k + m ≤ maxLen)
    (hxs : xs ++ news = xs') {Ms : Value → List HObj} (hms : ∀ v', ms.set q (vec v' e size (k + m) xs') = Ms v')
    (h : ∀ v' w', v'.oneCell' = true → St c w' σ (Ms v') → wpList P ops Q rest (mk n (upd f d v')) w') :
    wpList P ops Q (⟨some d, .call ⟨.builtin .append, #[x, y], #[st, st]⟩, t, p, af, none⟩ :: rest) (mk n f) w := by
  obtain ⟨v', w', hr, ho, hk, hf⟩ := run_app (P := P) (ty' := t) (cc := cc) hu hi hz hsz hby hzs hpos (hS.get hq) hl hnews h1 hb h63
  subst hxs
  refine o_val rfl rfl ?_ (h v' w' (vec_one ho) (hS.step hq hk ho hf (hms v') hS.view.none_of_ge))
  simp only [execOp, resolve, invoke, builtin, Sem.run_bind, Sem.run_pure, Result.andThen_ok, List.map_toArray, List.map_cons, List.map_nil, hx, hy, hr]
/-- Nothing is appended: the source is nil. -/
theorem o_append_nil {st e : TypeId} {x y : Operand} {i : TypeInfo} {size : Nat} (hu : P.underlying st = some (.slice e)) (hi : P.info? e = some i)
    {v : Value} {k q : Nat} {xs : List Value} (hS : St c w σ ms) (hx : ev n f x = v) (hq : ms[q]? = some (vec v e size k xs)) (hy : ev n f y = .slice none 0 0)
    (h : wpList P ops Q rest (mk n (upd f d v)) w) :
    wpList P ops Q (⟨some d, .call ⟨.builtin .append, #[x, y], #[st, st]⟩, t, p, af, none⟩ :: rest) (mk n f) w := by
  have hr := run_append_owned_none (P := P) w 0 st t e i size hu hi v k xs (hS.get hq)
  refine o_val (v := v) rfl rfl ?_ h
  simp only [execOp, resolve, invoke, builtin, Sem.run_bind, Sem.run_pure, Result.andThen_ok, List.map_toArray, List.map_cons, List.map_nil, hx, hy, hr]

/-! Calls. -/
theorem o_call {g : FuncId} {xs : List Operand} {ts : Array TypeId} {args : List Value} (ha : xs.map (ev n f) = args) (hcall : ∀ args w, (callFunc g args).run P w = .ok (.enter g args) w)
    (hc : Calls P g args.toArray w fun e w1 => ∃ v, e = .returned v ∧ wpList P ops Q rest (mk n (upd f d v)) w1) :
    wpList P ops Q (⟨some d, .call ⟨.value (.func g), xs.toArray, ts⟩, t, p, af, none⟩ :: rest) (mk n f) w := by
  refine o_enter rfl rfl ?_ hc
  have h0 : ev n f (.func g) = .func (.func g) #[] #[] := rfl
  subst ha
  simp [execOp, resolve, h0, Deferred.ofValue, invoke, hcall]
/-- A call of a function value. -/
theorem o_callv {x : Operand} {g : FuncId} {first captured : List Value} {xs : List Operand} {ts : Array TypeId} {args : List Value} (hx : ev n f x = .func (.func g) first.toArray captured.toArray) (ha : (first ++ xs.map (ev n f)) ++ captured = args)
    (hcall : ∀ args w, (callFunc g args).run P w = .ok (.enter g args) w)
    (hc : Calls P g args.toArray w fun e w1 => ∃ v, e = .returned v ∧ wpList P ops Q rest (mk n (upd f d v)) w1) :
    wpList P ops Q (⟨some d, .call ⟨.value x, xs.toArray, ts⟩, t, p, af, none⟩ :: rest) (mk n f) w := by
  refine o_enter rfl rfl ?_ hc
  subst ha
  simp [execOp, resolve, hx, Deferred.ofValue, invoke, hcall]

/-- s[lo:hi] of a slice. -/
theorem o_slice {st e : TypeId} {x : Operand} {lo hi : Option Operand} {a : Option Addr} {len cap l r size : Nat} {v : Value} (hx : ev n f x = .slice a len cap) (hu : P.underlying st = some (.slice e)) (hs : ∀ w, (sizeOf e).run P w = .ok size w)
    (hlo : (lo = none ∧ l = 0) ∨ ∃ o, lo = some o ∧ ev n f o = .int .i64 (l : Int)) (hhi : (hi = none ∧ r = len) ∨ ∃ o, hi = some o ∧ ev n f o = .int .i64 (r : Int)) (h1 : l ≤ r) (h2 : r ≤ cap)
    (hv : .slice (if cap = l then a else a.map (·.add (l * size))) (r - l) (cap - l) = v)
    (h : wpList P ops Q rest (mk n (upd f d v)) w) : wpList P ops Q (⟨some d, .slice st x lo hi none, t, p, af, none⟩ :: rest) (mk n f) w := by
  refine o_val rfl rfl ?_ h
  subst hv
  have e1 : (r : Int) ≤ (cap : Int) := by omega
  have e2 : (l : Int) ≤ (r : Int) := by omega
  rcases hlo with ⟨rfl, rfl⟩ | ⟨o, rfl, ho⟩ <;> rcases hhi with ⟨rfl, rfl⟩ | ⟨o', rfl, ho'⟩ <;>
    simp_all [execOp, Instr.sliceAt, run_underlying hu, Instr.slice, Instr.sliceBounds, Instr.sliceBound, asIntOf]

/-- s[:r] -/
theorem o_prefix {st e : TypeId} {x o : Operand} {a : Option Addr} {len cap r size : Nat} (hx : ev n f x = .slice a len cap) (hu : P.underlying st = some (.slice e)) (hs : ∀ w, (sizeOf e).run P w = .ok size w)
    (ho : ev n f o = .int .i64 (r : Int)) (h2 : r ≤ cap)
    (h : wpList P ops Q rest (mk n (upd f d (.slice a r cap))) w) : wpList P ops Q (⟨some d, .slice st x none (some o) none, t, p, af, none⟩ :: rest) (mk n f) w := by
  refine o_slice hx hu hs (.inl ⟨rfl, rfl⟩) (.inr ⟨o, rfl, ho⟩) (Nat.zero_le _) h2 ?_ h
  have e : (Option.map (fun z : Addr => z.add (0 * size)) a) = a := by
    rw [Nat.zero_mul]
    cases a <;> simp [Addr.add]
  rw [e]
  simp

#print axioms o_store
#print axioms o_append
#print axioms o_slice
end Go.Fl
