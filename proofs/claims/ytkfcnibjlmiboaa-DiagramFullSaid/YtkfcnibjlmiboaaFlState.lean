/- The heap's state in a walk: a view that never turns, and a list of objects that the call may write. Conditions: none. -/
import Derived.Test.YtkfcnibjlmiboaaFlBase
namespace Go.Fl
open Go Go.RowKit

/-- A part of the heap, block by block. -/
abbrev Hv := Nat → Option Obj

def Hv.cell (σ : Hv) (a : Addr) : Option Value :=
  match σ a.block with
  | some (.cells c _ _) => if a.spot.isSome then none else c[a.off]?
  | _ => none

def Sub (σ τ : Hv) : Prop := ∀ b o, σ b = some o → τ b = some o
def View (σ : Hv) (w : World) : Prop := ∀ b o, σ b = some o → w.heap[b]? = some o

theorem Sub.refl (σ : Hv) : Sub σ σ := fun _ _ h => h
theorem Sub.trans {a b c : Hv} (h : Sub a b) (k : Sub b c) : Sub a c := fun x o hx => k x o (h x o hx)
theorem Sub.cell {σ τ : Hv} (h : Sub σ τ) {a : Addr} {v : Value} (hc : σ.cell a = some v) : τ.cell a = some v := by
  unfold Hv.cell at *
  cases hb : σ a.block with
  | none => rw [hb] at hc; cases hc
  | some o => rw [h _ _ hb]; rw [hb] at hc; exact hc
theorem View.cell {σ : Hv} {w : World} (h : View σ w) {a : Addr} {v : Value} (hc : σ.cell a = some v) : w.cell? a = some v := by
  unfold Hv.cell at hc
  unfold World.cell?
  cases hb : σ a.block with
  | none => rw [hb] at hc; cases hc
  | some o => rw [h _ _ hb]; rw [hb] at hc; exact hc

/-- All but the blocks in M is as it was. -/
structure Keeps (M : List Nat) (w w' : World) : Prop where
  os : w'.os = w.os
  tape : w'.tape = w.tape
  output : w'.output = w.output
  size : w.heap.size ≤ w'.heap.size
  block : ∀ k, k < w.heap.size → k ∉ M → w'.heap[k]? = w.heap[k]?

theorem Keeps.refl (M : List Nat) (w : World) : Keeps M w w := ⟨rfl, rfl, rfl, Nat.le_refl _, fun _ _ _ => rfl⟩
theorem Keeps.trans {M : List Nat} {a b c : World} (h : Keeps M a b) (k : Keeps M b c) : Keeps M a c :=
  ⟨k.os.trans h.os, k.tape.trans h.tape, k.output.trans h.output, Nat.le_trans h.size k.size,
    fun i hi hm => (k.block i (Nat.lt_of_lt_of_le hi h.size) hm).trans (h.block i hi hm)⟩
theorem Keeps.mono {M N : List Nat} {a b : World} (h : Keeps M a b) (hs : ∀ k ∈ M, k ∈ N) : Keeps N a b :=
  ⟨h.os, h.tape, h.output, h.size, fun i hi hm => h.block i hi (fun hk => hm (hs i hk))⟩
theorem Keeps.drew {M : List Nat} {a w : World} (h : Keeps M a w) : Keeps M a w.drew := ⟨h.os, h.tape, h.output, h.size, h.block⟩
theorem Keeps.below {a b : World} (h : Keeps [] a b) : Below a.heap.size a b :=
  ⟨h.os, h.tape, h.output, h.size, fun k hk => h.block k hk (by simp)⟩

/-- An object that the call may write: the one block it lies in; what is known of it; that this hangs on that block alone. -/
structure HObj where
  foot : Option Nat
  ok : World → Prop
  stay : ∀ w w' : World, (∀ k, foot = some k → w'.heap[k]? = w.heap[k]?) → ok w → ok w'
  lt : ∀ (w : World) k, ok w → foot = some k → k < w.heap.size

/-- A block that is known whole. -/
def blk (b : Nat) (T : TypeId) (cs : List Value) : HObj where
  foot := some b
  ok w := w.heap[b]? = some (.cells cs.toArray T (0, 0))
  stay w w' h hk := (h b rfl).trans hk
  lt w k hk hf := by cases hf; exact lt_of_block hk

/-- A slice of the call's own. -/
def vec (v : Value) (T : TypeId) (size n : Nat) (xs : List Value) : HObj where
  foot := v.ownBlock
  ok w := w.ownsRow 0 T size v n xs
  stay w w' h hk := by
    obtain ⟨h1, h2⟩ := hk
    refine ⟨h1, ?_⟩
    rcases h2 with h2 | ⟨g, cap, cur, hv, hg, hh, r⟩
    · exact Or.inl h2
    · exact Or.inr ⟨g, cap, cur, hv, hg, (h g (by rw [hv]; rfl)).trans hh, r⟩
  lt w k hk hf := by
    obtain ⟨_, h2⟩ := hk
    rcases h2 with ⟨rfl, _⟩ | ⟨g, cap, cur, rfl, _, hh, _⟩
    · cases hf
    · cases hf; exact lt_of_block hh

structure Cx where
  w : World
  σ : Hv
  M : List Nat

structure St (c : Cx) (w : World) (σ : Hv) (ms : List HObj) : Prop where
  keeps : Keeps c.M c.w w
  view : View σ w
  sub : Sub c.σ σ
  fresh : ∀ b, b < c.w.heap.size → b ∉ c.M → σ b = c.σ b
  own : ∀ o ∈ ms, o.ok w
  sep : ms.Pairwise (fun a b => ∀ k, a.foot = some k → b.foot ≠ some k)
  off : ∀ o ∈ ms, ∀ k, o.foot = some k → σ k = none
  new : ∀ o ∈ ms, ∀ k, o.foot = some k → k ∈ c.M ∨ c.w.heap.size ≤ k

/-- What a call leaves: all but M is as it was; the view has grown by new blocks. -/
structure Grow (M : List Nat) (σ : Hv) (w : World) (σ1 : Hv) (w1 : World) : Prop where
  keeps : Keeps M w w1
  view : View σ1 w1
  sub : Sub σ σ1
  fresh : ∀ b, b < w.heap.size → b ∉ M → σ1 b = σ b

theorem Grow.refl {σ : Hv} {w : World} (h : View σ w) (M : List Nat) : Grow M σ w σ w := ⟨.refl _ _, h, .refl _, fun _ _ _ => rfl⟩
theorem Grow.trans {M : List Nat} {σ σ1 σ2 : Hv} {w w1 w2 : World} (h : Grow M σ w σ1 w1) (k : Grow M σ1 w1 σ2 w2) : Grow M σ w σ2 w2 :=
  ⟨h.keeps.trans k.keeps, k.view, h.sub.trans k.sub, fun b hb hm => (k.fresh b (Nat.lt_of_lt_of_le hb h.keeps.size) hm).trans (h.fresh b hb hm)⟩

theorem Grow.forget {M : List Nat} {σ σ1 : Hv} {w w1 : World} (h : Grow M σ w σ1 w1) : Grow M σ w σ w1 :=
  ⟨h.keeps, fun b o hb => h.view b o (h.sub b o hb), .refl _, fun _ _ _ => rfl⟩
theorem St.done {c : Cx} {w : World} {σ : Hv} {ms : List HObj} (h : St c w σ ms) : Grow c.M c.σ c.w σ w := ⟨h.keeps, h.view, h.sub, h.fresh⟩

/-- Back to a view that was. -/
theorem St.less {c : Cx} {w w1 : World} {σ σ1 : Hv} {ms ms1 : List HObj} (h : St c w σ ms) (h1 : St c w1 σ1 ms1) (hs : Sub σ1 σ) : St c w σ1 ms :=
  ⟨h.keeps, fun b o hb => h.view b o (hs b o hb), h1.sub, h1.fresh, h.own, h.sep,
    fun o ho k hk => by
      rcases hq : σ1 k with _ | x
      · rfl
      · have := hs k x hq; rw [h.off o ho k hk] at this; simp at this, h.new⟩

/-- At a function's start. -/
theorem St.start {w : World} {σ : Hv} (h : View σ w) : St ⟨w, σ, []⟩ w σ [] :=
  ⟨.refl _ _, h, .refl _, fun _ _ _ => rfl, by simp, by simp, by simp, by simp⟩
/-- At the start of a function that writes one object that came in. -/
theorem St.start1 {w : World} {σ : Hv} (h : View σ w) {o : HObj} {b : Nat} (ho : o.ok w) (hf : o.foot = some b) (hσ : σ b = none) : St ⟨w, σ, [b]⟩ w σ [o] :=
  ⟨.refl _ _, h, .refl _, fun _ _ _ => rfl, by simpa using ho, by simp, by simp only [List.mem_singleton]; rintro o' rfl k hk; rw [hf] at hk; cases hk; exact hσ,
   by simp only [List.mem_singleton]; rintro o' rfl k hk; rw [hf] at hk; cases hk; exact .inl rfl⟩

theorem St.drew {c : Cx} {w : World} {σ : Hv} {ms : List HObj} (h : St c w σ ms) : St c w.drew σ ms :=
  ⟨h.keeps.drew, h.view, h.sub, h.fresh, fun o ho => o.stay w w.drew (fun _ _ => rfl) (h.own o ho), h.sep, h.off, h.new⟩

/-- Fewer objects. -/
theorem St.sublist {c : Cx} {w : World} {σ : Hv} {ms ms' : List HObj} (h : St c w σ ms) (hs : ms'.Sublist ms) : St c w σ ms' :=
  ⟨h.keeps, h.view, h.sub, h.fresh, fun o ho => h.own o (hs.subset ho), h.sep.sublist hs, fun o ho => h.off o (hs.subset ho), fun o ho => h.new o (hs.subset ho)⟩

theorem St.get {c : Cx} {w : World} {σ : Hv} {ms : List HObj} (h : St c w σ ms) {i : Nat} {o : HObj} (hi : ms[i]? = some o) : o.ok w :=
  h.own o (List.mem_of_getElem? hi)

theorem sep_set {ms : List HObj} (h : ms.Pairwise (fun a b => ∀ k, a.foot = some k → b.foot ≠ some k)) {i : Nat} {o : HObj}
    (ho : ∀ j p, ms[j]? = some p → j ≠ i → ∀ k, o.foot = some k → p.foot ≠ some k) : (ms.set i o).Pairwise (fun a b => ∀ k, a.foot = some k → b.foot ≠ some k) := by
  rw [List.pairwise_iff_getElem] at *
  intro x y hx hy hlt
  have hx' : x < ms.length := by simpa using hx
  have hy' : y < ms.length := by simpa using hy
  rw [List.getElem_set, List.getElem_set]
  by_cases h1 : i = x
  · subst h1
    rw [if_pos rfl, if_neg (by omega)]
    exact ho y _ (List.getElem?_eq_getElem hy') (by omega)
  · by_cases h2 : i = y
    · subst h2
      rw [if_neg h1, if_pos rfl]
      intro k hk hk'
      exact ho x _ (List.getElem?_eq_getElem hx') (by omega) k hk' hk
    · rw [if_neg h1, if_neg h2]
      exact h x y hx' hy' hlt

theorem mem_set_cases {ms : List HObj} {i : Nat} {o p : HObj} (h : p ∈ ms.set i o) : p = o ∨ ∃ j, j ≠ i ∧ ms[j]? = some p := by
  obtain ⟨j, hj⟩ := List.mem_iff_getElem?.1 h
  rw [List.getElem?_set] at hj
  by_cases hij : i = j
  · rw [if_pos hij] at hj
    split at hj
    · left; cases hj; rfl
    · cases hj
  · rw [if_neg hij] at hj
    exact .inr ⟨j, fun e => hij e.symm, hj⟩

theorem St.apart {c : Cx} {w : World} {σ : Hv} {ms : List HObj} (h : St c w σ ms) {i j : Nat} {o p : HObj} (hi : ms[i]? = some o) (hj : ms[j]? = some p) (hne : j ≠ i) :
    ∀ k, o.foot = some k → p.foot ≠ some k := by
  have hs := List.pairwise_iff_getElem.1 h.sep
  obtain ⟨hil, rfl⟩ := List.getElem?_eq_some_iff.1 hi
  obtain ⟨hjl, rfl⟩ := List.getElem?_eq_some_iff.1 hj
  intro k hk hk'
  rcases Nat.lt_or_gt_of_ne hne with hlt | hlt
  · exact hs j i hjl hil hlt k hk' hk
  · exact hs i j hil hjl hlt k hk hk'

/-- The world turns in object i alone, and new blocks; the object is another, in the same block or a new one. -/
theorem St.step {c : Cx} {w w' : World} {σ : Hv} {ms ms' : List HObj} (h : St c w σ ms) {i : Nat} {o o' : HObj} (hi : ms[i]? = some o)
    (hk : Keeps (o.foot.toList) w w') (ho : o'.ok w') (hf : ∀ k, o'.foot = some k → o.foot = some k ∨ w.heap.size ≤ k) (hms : ms.set i o' = ms')
    (hnone : ∀ k, w.heap.size ≤ k → σ k = none) : St c w' σ ms' := by
  subst hms
  have hin := List.mem_of_getElem? hi
  have hfar : ∀ j p, j ≠ i → ms[j]? = some p → ∀ k, p.foot = some k → w'.heap[k]? = w.heap[k]? := by
    intro j p hji hj k hpk
    refine hk.block k (p.lt w k (h.get hj) hpk) ?_
    intro hm
    rw [Option.mem_toList] at hm
    exact h.apart hi hj hji k hm hpk
  refine ⟨?_, ?_, h.sub, h.fresh, ?_, ?_, ?_, ?_⟩
  · refine ⟨hk.os.trans h.keeps.os, hk.tape.trans h.keeps.tape, hk.output.trans h.keeps.output, Nat.le_trans h.keeps.size hk.size, fun k hlt hm => ?_⟩
    refine (hk.block k (Nat.lt_of_lt_of_le hlt h.keeps.size) ?_).trans (h.keeps.block k hlt hm)
    intro hm'
    rw [Option.mem_toList] at hm'
    rcases h.new o hin k hm' with hM | hge
    · exact hm hM
    · omega
  · intro b ob hb
    have hw := h.view b ob hb
    rw [hk.block b (lt_of_block hw) ?_]
    · exact hw
    · intro hm'
      rw [Option.mem_toList] at hm'
      rw [h.off o hin b hm'] at hb
      cases hb
  · intro p hp
    rcases mem_set_cases hp with rfl | ⟨j, hji, hj⟩
    · exact ho
    · exact p.stay w w' (hfar j p hji hj) (h.get hj)
  · refine sep_set h.sep fun j p hj hji k hok hpk => ?_
    rcases hf k hok with hs | hge
    · exact h.apart hi hj hji k hs hpk
    · have := p.lt w k (h.get hj) hpk
      omega
  · intro p hp k hpk
    rcases mem_set_cases hp with rfl | ⟨j, hji, hj⟩
    · rcases hf k hpk with hs | hge
      · exact h.off o hin k hs
      · exact hnone k hge
    · exact h.off p (List.mem_of_getElem? hj) k hpk
  · intro p hp k hpk
    rcases mem_set_cases hp with rfl | ⟨j, hji, hj⟩
    · rcases hf k hpk with hs | hge
      · exact h.new o hin k hs
      · exact .inr (Nat.le_trans h.keeps.size hge)
    · exact h.new p (List.mem_of_getElem? hj) k hpk

theorem View.none_of_ge {σ : Hv} {w : World} (h : View σ w) : ∀ k, w.heap.size ≤ k → σ k = none := by
  intro k hk
  cases hb : σ k with
  | none => rfl
  | some o =>
    have := lt_of_block (h k o hb)
    omega

/-- A new object in new blocks. -/
theorem St.add {c : Cx} {w w' : World} {σ : Hv} {ms : List HObj} (h : St c w σ ms) {o : HObj} (hk : Keeps [] w w') (ho : o.ok w')
    (hf : ∀ k, o.foot = some k → w.heap.size ≤ k) : St c w' σ (o :: ms) := by
  have hfar : ∀ p ∈ ms, ∀ k, p.foot = some k → w'.heap[k]? = w.heap[k]? := fun p hp k hpk => hk.block k (p.lt w k (h.own p hp) hpk) (by simp)
  refine ⟨h.keeps.trans (hk.mono (by simp)), ?_, h.sub, h.fresh, ?_, ?_, ?_, ?_⟩
  · intro b ob hb
    have hw := h.view b ob hb
    rw [hk.block b (lt_of_block hw) (by simp)]
    exact hw
  · intro p hp
    rcases List.mem_cons.1 hp with rfl | hp
    · exact ho
    · exact p.stay w w' (hfar p hp) (h.own p hp)
  · refine List.pairwise_cons.2 ⟨fun p hp k hok hpk => ?_, h.sep⟩
    have := p.lt w k (h.own p hp) hpk
    have := hf k hok
    omega
  · intro p hp k hpk
    rcases List.mem_cons.1 hp with rfl | hp
    · exact h.view.none_of_ge k (hf k hpk)
    · exact h.off p hp k hpk
  · intro p hp k hpk
    rcases List.mem_cons.1 hp with rfl | hp
    · exact .inr (Nat.le_trans h.keeps.size (hf k hpk))
    · exact h.new p hp k hpk

/-- A nil slice is an object without a block. -/
theorem St.addNil {c : Cx} {w : World} {σ : Hv} {ms : List HObj} (h : St c w σ ms) (T : TypeId) (size : Nat) : St c w σ (vec (.slice none 0 0) T size 0 [] :: ms) :=
  h.add (.refl _ _) (World.ownsRow_nil _ _ _ _) (by intro k hk; cases hk)

/-- Behind a call that writes nothing that was there. -/
theorem St.grow {c : Cx} {w w1 : World} {σ σ1 : Hv} {ms : List HObj} (h : St c w σ ms) (g : Grow [] σ w σ1 w1) : St c w1 σ1 ms := by
  refine ⟨h.keeps.trans (g.keeps.mono (by simp)), g.view, h.sub.trans g.sub, ?_, ?_, h.sep, ?_, h.new⟩
  · intro b hb hm
    rw [g.fresh b (Nat.lt_of_lt_of_le hb h.keeps.size) (by simp), h.fresh b hb hm]
  · intro o ho
    exact o.stay w w1 (fun k hk => g.keeps.block k (o.lt w k (h.own o ho) hk) (by simp)) (h.own o ho)
  · intro o ho k hk
    rw [g.fresh k (o.lt w k (h.own o ho) hk) (by simp)]
    exact h.off o ho k hk

/-- The blocks of some objects. -/
def feet (ms : List HObj) : List Nat := ms.flatMap fun o => o.foot.toList
theorem mem_feet {ms : List HObj} {k : Nat} : k ∈ feet ms ↔ ∃ o ∈ ms, o.foot = some k := by
  simp [feet, Option.mem_toList]
/-- What a call may write is handed to it. -/
theorem St.inner {c : Cx} {w : World} {σ : Hv} {ins rest : List HObj} (h : St c w σ (ins ++ rest)) : St ⟨w, σ, feet ins⟩ w σ ins :=
  ⟨.refl _ _, h.view, .refl _, fun _ _ _ => rfl, fun o ho => h.own o (by simp [ho]), (List.pairwise_append.1 h.sep).1, fun o ho => h.off o (by simp [ho]), fun o ho k hk => .inl (mem_feet.2 ⟨o, ho, hk⟩)⟩
/-- Behind a call that writes some objects, and lays new ones. -/
theorem St.callM {c : Cx} {w w1 : World} {σ σ1 : Hv} {ins outs rest ms' : List HObj} (h : St c w σ (ins ++ rest)) (k : St ⟨w, σ, feet ins⟩ w1 σ1 outs) (hms : outs ++ rest = ms') : St c w1 σ1 ms' := by
  subst hms
  have hsep := List.pairwise_append.1 h.sep
  have hfar : ∀ p ∈ rest, ∀ j, p.foot = some j → j ∉ feet ins := fun p hp j hj hm => by
    obtain ⟨o, ho, hoj⟩ := mem_feet.1 hm
    exact hsep.2.2 o ho p hp j hoj hj
  have hrest : ∀ p ∈ rest, ∀ j, p.foot = some j → j < w.heap.size := fun p hp j hj => p.lt w j (h.own p (by simp [hp])) hj
  have hM : ∀ j ∈ feet ins, j ∈ c.M ∨ c.w.heap.size ≤ j := fun j hj => by
    obtain ⟨o, ho, hoj⟩ := mem_feet.1 hj
    exact h.new o (by simp [ho]) j hoj
  refine ⟨?_, k.view, h.sub.trans k.sub, ?_, ?_, ?_, ?_, ?_⟩
  · refine ⟨k.keeps.os.trans h.keeps.os, k.keeps.tape.trans h.keeps.tape, k.keeps.output.trans h.keeps.output, Nat.le_trans h.keeps.size k.keeps.size, fun j hlt hm => ?_⟩
    refine (k.keeps.block j (Nat.lt_of_lt_of_le hlt h.keeps.size) fun hj => ?_).trans (h.keeps.block j hlt hm)
    rcases hM j hj with h1 | h1
    · exact hm h1
    · omega
  · intro b hb hm
    refine (k.fresh b (Nat.lt_of_lt_of_le hb h.keeps.size) fun hj => ?_).trans (h.fresh b hb hm)
    rcases hM b hj with h1 | h1
    · exact hm h1
    · omega
  · intro p hp
    rcases List.mem_append.1 hp with hp | hp
    · exact k.own p hp
    · exact p.stay w w1 (fun j hj => k.keeps.block j (hrest p hp j hj) (hfar p hp j hj)) (h.own p (by simp [hp]))
  · refine List.pairwise_append.2 ⟨k.sep, hsep.2.1, fun o ho p hp j hoj hpj => ?_⟩
    rcases k.new o ho j hoj with h1 | h1
    · exact hfar p hp j hpj h1
    · exact Nat.lt_irrefl _ (Nat.lt_of_lt_of_le (hrest p hp j hpj) h1)
  · intro p hp j hj
    rcases List.mem_append.1 hp with hp | hp
    · exact k.off p hp j hj
    · rw [k.fresh j (hrest p hp j hj) (hfar p hp j hj)]
      exact h.off p (by simp [hp]) j hj
  · intro p hp j hj
    rcases List.mem_append.1 hp with hp | hp
    · rcases k.new p hp j hj with h1 | h1
      · exact hM j h1
      · exact .inr (Nat.le_trans h.keeps.size h1)
    · exact h.new p (by simp [hp]) j hj
/-- The view that was, where the call hands back nothing that is read. -/
theorem St.back {w w1 : World} {σ τ τ1 : Hv} {M : List Nat} {outs : List HObj} (k : St ⟨w, τ, M⟩ w1 τ1 outs) (hs : Sub σ τ) : St ⟨w, σ, M⟩ w1 σ outs := by
  refine ⟨k.keeps, fun b o hb => k.view b o (k.sub b o (hs b o hb)), .refl _, fun _ _ _ => rfl, k.own, k.sep, fun o ho j hj => ?_, k.new⟩
  rcases hq : σ j with _ | x
  · rfl
  · have := k.sub j x (hs j x hq)
    rw [k.off o ho j hj] at this; cases this

/-- Behind a call that writes object i. -/
theorem St.growM {c : Cx} {w w1 : World} {σ : Hv} {ms ms' : List HObj} (h : St c w σ ms) {b : Nat} (g : Grow [b] σ w σ w1) {i : Nat} {o o' : HObj} (hi : ms[i]? = some o)
    (hf : o.foot = some b) (hf' : o'.foot = some b) (ho : o'.ok w1) (hms : ms.set i o' = ms') : St c w1 σ ms' :=
  h.step hi (by rw [hf]; exact g.keeps) ho (fun k hk => .inl (by rw [hf, ← hf']; exact hk)) hms h.view.none_of_ge

/-- An object of the call's own is written no more: it joins the view. -/
theorem St.freeze' {c : Cx} {w : World} {σ : Hv} {ms ms' : List HObj} (h : St c w σ ms) {i : Nat} {o : HObj} (hi : ms[i]? = some o)
    (hms : ms.eraseIdx i = ms') : ∃ σ1, St c w σ1 ms' ∧ Sub σ σ1 ∧ ∀ k, o.foot = some k → σ1 k = w.heap[k]? := by
  subst hms
  have hin := List.mem_of_getElem? hi
  refine ⟨fun k => if o.foot = some k then w.heap[k]? else σ k, ⟨h.keeps, ?_, ?_, ?_, ?_, ?_, ?_, ?_⟩, ?_, ?_⟩
  · intro b ob hb
    simp only at hb
    split at hb
    · exact hb
    · exact h.view b ob hb
  · intro b ob hb
    have h1 := h.sub b ob hb
    simp only
    rw [if_neg ?_]
    · exact h1
    · intro hf
      rw [h.off o hin b hf] at h1; cases h1
  · intro b hb hm
    refine (if_neg ?_).trans (h.fresh b hb hm)
    intro hf
    rcases h.new o hin b hf with h1 | hge
    · exact hm h1
    · omega
  · exact fun p hp => h.own p (List.mem_of_mem_eraseIdx hp)
  · exact h.sep.sublist (List.eraseIdx_sublist _ _)
  · intro p hp k hpk
    obtain ⟨j, hj, hp'⟩ := List.mem_eraseIdx_iff_getElem?.1 hp
    refine (if_neg ?_).trans (h.off p (List.mem_of_getElem? hp') k hpk)
    intro hf
    exact h.apart hi hp' hj k hf hpk
  · exact fun p hp => h.new p (List.mem_of_mem_eraseIdx hp)
  · intro b ob hb
    refine (if_neg ?_).trans hb
    intro hf
    rw [h.off o hin b hf] at hb; cases hb
  · intro k hk
    exact if_pos hk

#print axioms St.step
end Go.Fl
