/- Frames as functions, and the rules of control in that form. Conditions: none; every rule speaks of any program. -/
import Derived.WalkKit
import Derived.WalkLawsBesides
import Derived.RegionTactic
import Derived.Laws.StructEq
import Derived.Orders
section
namespace Go.Fl
open Go Go.RowKit

/-- A frame: what each slot holds. -/
abbrev Fr := Nat → Value

def upd (f : Fr) (d : Nat) (v : Value) : Fr := fun k => bif Nat.beq k d then v else f k

/-- The state whose n slots read as f, nothing deferred. -/
def mk (n : Nat) (f : Fr) : Act := ⟨Array.ofFn (n := n) fun i => f i.val, []⟩

/-- The value of an operand. -/
def ev (n : Nat) (f : Fr) : Operand → Value
  | .tmp t => bif Nat.blt t n then f t else undef
  | .const v => v
  | .global g => .pointer (some ⟨g, 0, none⟩)
  | .func k => .func (.func k) #[] #[]

/-- The first slots: the arguments. -/
def frl : List Value → Fr
  | [], _ => undef
  | v :: _, 0 => v
  | _ :: l, k + 1 => frl l k

theorem mk_getD (n : Nat) (f : Fr) (t : Nat) : (mk n f).tmps.getD t undef = if t < n then f t else undef := by
  rw [Array.getD_eq_getD_getElem?]
  by_cases h : t < n
  · rw [if_pos h]; simp [mk, h]
  · rw [if_neg h, Array.getElem?_eq_none (by simp [mk]; omega)]; rfl

theorem eval_mk (n : Nat) (f : Fr) : (mk n f).eval = ev n f := by
  funext x
  cases x with
  | tmp t =>
    show (mk n f).tmps.getD t undef = ev n f (.tmp t)
    rw [mk_getD]
    simp only [ev]
    by_cases h : t < n
    · have hb : Nat.blt t n = true := by rw [Nat.blt_eq]; exact h
      rw [if_pos h, hb]; rfl
    · rw [if_neg h]
      have : Nat.blt t n = false := by
        cases hb : Nat.blt t n
        · rfl
        · exact absurd (by rw [Nat.blt_eq] at hb; exact hb) h
      rw [this]; rfl
  | const v => rfl
  | global g => rfl
  | func k => rfl

theorem put_mk (n : Nat) (f : Fr) (d : Nat) (v : Value) : (mk n f).put (some d) v = mk n (upd f d v) := by
  simp only [Act.put, mk]
  congr 1
  apply Array.ext
  · simp
  · intro i h1 h2
    simp only [Array.getElem_ofFn, upd]
    rw [Array.getElem_setIfInBounds (by simpa using h1)]
    by_cases h : d = i
    · subst h; simp
    · have : Nat.beq i d = false := by
        cases hb : Nat.beq i d
        · rfl
        · exact absurd (Nat.eq_of_beq_eq_true hb).symm h
      rw [if_neg h, this]; simp

theorem put_none (n : Nat) (f : Fr) (v : Value) : (mk n f).put none v = mk n f := rfl

theorem upd_self {f : Fr} {d : Nat} {v : Value} (h : f d = v) : f = upd f d v := by
  funext k
  simp only [upd]
  cases hb : Nat.beq k d
  · rfl
  · rw [Nat.eq_of_beq_eq_true hb, h]; rfl
theorem upd_in {f g : Fr} {d : Nat} {v : Value} (h : f d = v) (hg : f = g) : f = upd g d v := hg ▸ upd_self (hg ▸ h)

theorem frl_eq (args : List Value) (k : Nat) : frl args k = args.getD k undef := by
  induction args generalizing k with
  | nil => rfl
  | cons a l ih => cases k with
    | zero => rfl
    | succ k => simpa [frl] using ih k

theorem start_mk {n : Nat} (args : Array Value) (h : args.size ≤ n) :
    ({ tmps := args ++ Array.replicate (n - args.size) undef, defers := [] } : Act) = mk n (frl args.toList) := by
  simp only [mk]
  congr 1
  apply Array.ext
  · simp; omega
  · intro i h1 h2
    simp only [Array.getElem_ofFn, frl_eq, Array.getElem_append]
    split
    · rename_i hi
      simp [List.getD, hi]
    · rename_i hi
      simp [List.getD, Array.getElem_replicate]
      rw [Array.getElem?_eq_none (by omega)]; rfl

variable {P : Program}

/-- Into a function: its body over the frame of its arguments. -/
theorem enter {f : FuncId} {fn : Func} {c : Code} {args : Array Value} {n : Nat} {w : World} {R : Ending → World → Prop}
    (hf : P.funcs[f]? = some fn) (hb : fn.body = some c) (hn : fn.ntmps = n) (hs : Nat.ble args.size n = true)
    (h : c.wp P (bodyPost P fn R) (mk n (frl args.toList)) w) : Calls P f args w R := by
  refine calls_of_wp hf hb ?_
  subst hn
  rw [start_mk args (Nat.le_of_ble_eq_true hs)]
  exact h

theorem ret0 {fn : Func} {R : Ending → World → Prop} {n : Nat} {f : Fr} {w : World} (h : fn.results = #[]) (hR : R (.returned (.tuple #[])) w) :
    bodyPost P fn R .ret (mk n f) w := bodyPost_ret (results_none h _ _ _) rfl hR
theorem ret0n {fn : Func} {R : Ending → World → Prop} {n : Nat} {f : Fr} {w : World} (h : fn.results = #[]) (hR : R (.returned (.tuple #[])) w) :
    bodyPost P fn R .normal (mk n f) w := bodyPost_end (results_none h _ _ _) rfl hR

theorem res_ev {n : Nat} {f : Fr} {t : Tmp} {v : Value} (hv : ev n f (.tmp t) = v) : (mk n f).tmps.getD t undef = v := by
  have : (mk n f).eval (.tmp t) = v := by rw [eval_mk]; exact hv
  exact this

theorem ret1 {fn : Func} {R : Ending → World → Prop} {n : Nat} {f : Fr} {w : World} {t : Tmp} {v : Value} (h : fn.results = #[.tmp t])
    (hv : ev n f (.tmp t) = v) (hR : R (.returned v) w) : bodyPost P fn R .ret (mk n f) w :=
  bodyPost_ret (results_tmp h _ _ _) rfl (by rw [res_ev hv]; exact hR)
theorem ret1n {fn : Func} {R : Ending → World → Prop} {n : Nat} {f : Fr} {w : World} {t : Tmp} {v : Value} (h : fn.results = #[.tmp t])
    (hv : ev n f (.tmp t) = v) (hR : R (.returned v) w) : bodyPost P fn R .normal (mk n f) w :=
  bodyPost_end (results_tmp h _ _ _) rfl (by rw [res_ev hv]; exact hR)
theorem ret2 {fn : Func} {R : Ending → World → Prop} {n : Nat} {f : Fr} {w : World} {t u : Tmp} {v v2 : Value} (h : fn.results = #[.tmp t, .tmp u])
    (hv : ev n f (.tmp t) = v) (hv2 : ev n f (.tmp u) = v2) (hR : R (.returned (.tuple #[v, v2])) w) : bodyPost P fn R .ret (mk n f) w :=
  bodyPost_ret (results_tmp2 h _ _ _) rfl (by rw [res_ev hv, res_ev hv2]; exact hR)
theorem ret3 {fn : Func} {R : Ending → World → Prop} {n : Nat} {f : Fr} {w : World} {t u x : Tmp} {v v2 v3 : Value} (h : fn.results = #[.tmp t, .tmp u, .tmp x])
    (hv : ev n f (.tmp t) = v) (hv2 : ev n f (.tmp u) = v2) (hv3 : ev n f (.tmp x) = v3) (hR : R (.returned (.tuple #[v, v2, v3])) w) : bodyPost P fn R .ret (mk n f) w :=
  bodyPost_ret (results_tmp3 h _ _ _) rfl (by rw [res_ev hv, res_ev hv2, res_ev hv3]; exact hR)
/-- One result that lies in a variable of its own (a struct, an array): the variable's block is read. -/
theorem retrow {fn : Func} {R : Ending → World → Prop} {n : Nat} {f : Fr} {w : World} {t : Tmp} {ty : TypeId} {g : Nat} {tt : TypeId} {cs : Array Value} {d : TypeDesc}
    (h : fn.results = #[.cell t ty]) (hv : ev n f (.tmp t) = .pointer (some ⟨g, 0, none⟩)) (hg : w.heap[g]? = some (.cells cs tt (0, 0)))
    (hu : P.underlying ty = some d) (hd : (match d with | .struct _ | .array _ _ => true | _ => false) = true) (hi : (P.info? ty).map (·.size) = some cs.size)
    (hR : R (.returned (.agg cs)) w) : bodyPost P fn R .ret (mk n f) w :=
  bodyPost_ret (results_cell_row h _ w g tt cs (0, 0) d (res_ev hv) hg hu hd hi) rfl hR

section code
variable {Q : Exit → Act → World → Prop} {n : Nat} {f : Fr} {w : World}

/-- 'region; rest': the operations, then the rest. -/
theorem seq_reg {id : Nat} {ops : Array Oper} {y : Code} (h : wpList P ops (Exit.then (y.wp P Q) Q) ops.toList (mk n f) w) :
    (Code.seq (.region id ops false) y).wp P Q (mk n f) w := wp_seq (wp_region_list h)
theorem one_reg {id : Nat} {ops : Array Oper} (h : wpList P ops Q ops.toList (mk n f) w) :
    (Code.region id ops false).wp P Q (mk n f) w := wp_region_list h
theorem nil_then {ops : Array Oper} {y : Code} (h : y.wp P Q (mk n f) w) : wpList P ops (Exit.then (y.wp P Q) Q) [] (mk n f) w := h
theorem nil_q {ops : Array Oper} (h : Q .normal (mk n f) w) : wpList P ops Q [] (mk n f) w := h

theorem if_d {c : Operand} {x y : Code} (p : Prop) [Decidable p] (hc : ev n f c = .bool (decide p)) (ht : p → x.wp P Q (mk n f) w) (hf : ¬ p → y.wp P Q (mk n f) w) :
    (Code.cond c x y).wp P Q (mk n f) w := by
  by_cases h : p
  · exact wp_cond_true (by rw [eval_mk, hc, decide_eq_true h]) (ht h)
  · exact wp_cond_false (by rw [eval_mk, hc, decide_eq_false h]) (hf h)
theorem if_b {c : Operand} {x y : Code} {b : Bool} (hc : ev n f c = .bool b) (ht : b = true → x.wp P Q (mk n f) w) (hf : b = false → y.wp P Q (mk n f) w) :
    (Code.cond c x y).wp P Q (mk n f) w := by
  cases b
  · exact wp_cond_false (by rw [eval_mk, hc]) (hf rfl)
  · exact wp_cond_true (by rw [eval_mk, hc]) (ht rfl)
theorem if_t {c : Operand} {x y : Code} (hc : ev n f c = .bool true) (ht : x.wp P Q (mk n f) w) : (Code.cond c x y).wp P Q (mk n f) w :=
  wp_cond_true (by rw [eval_mk, hc]) ht
theorem if_f {c : Operand} {x y : Code} (hc : ev n f c = .bool false) (hf : y.wp P Q (mk n f) w) : (Code.cond c x y).wp P Q (mk n f) w :=
  wp_cond_false (by rw [eval_mk, hc]) hf

/-- A loop: the measure is the invariant's first argument. -/
theorem loop {c : Code} (I : Nat → Fr → World → Prop) {m0 : Nat} (h0 : I m0 f w)
    (round : ∀ m f w, I m f w → c.wp P (Exit.then (fun a' w' => ∃ m' f', a' = mk n f' ∧ I m' f' w' ∧ m' < m) Q) (mk n f) w) :
    (Code.loop c).wp P Q (mk n f) w := by
  intro b k cs
  have key : ∀ m f w, I m f w →
      ∃ e a' w', Q e a' w' ∧ Arrives P (lone (b.at (mk n f) (.code c :: .inLoop c :: k)) cs w) b k cs e a' w' := by
    intro m
    induction m using Nat.strongRecOn with
    | _ m ih =>
      intro f w hI
      obtain ⟨e, a₁, w₁, hq, harr⟩ := round m f w hI b (.inLoop c :: k) cs
      cases e with
      | normal =>
        obtain ⟨m', f', rfl, hI₁, hlt⟩ := hq
        obtain ⟨e₂, a₂, w₂, hq₂, harr₂⟩ := ih m' hlt f' w₁ hI₁
        exact ⟨e₂, a₂, w₂, hq₂, .of_steps (Steps.trans harr (.one step_inLoop)) harr₂⟩
      | exit id => exact ⟨_, a₁, w₁, hq, .pass (x := .inLoop c) rfl (fun _ _ => .inl (by simp)) harr⟩
      | goto l => exact ⟨_, a₁, w₁, hq, .pass (x := .inLoop c) rfl (fun _ _ => .inl (by simp)) harr⟩
      | ret => exact ⟨_, a₁, w₁, hq, .pass (x := .inLoop c) rfl (fun _ _ => .inl (by simp)) harr⟩
      | panic ch => exact ⟨_, a₁, w₁, hq, .pass (x := .inLoop c) rfl (fun _ _ => .inl (by simp)) harr⟩
      | outgrown => exact ⟨_, a₁, w₁, hq, .pass (x := .inLoop c) rfl (fun _ _ => .inl (by simp)) harr⟩
  obtain ⟨e, a', w', hq, harr⟩ := key m0 f w h0
  exact ⟨e, a', w', hq, .of_steps (.one step_loop) harr⟩

/-- A piece of code by what holds behind it (normal way out), all other ways handed on: ways meet again. -/
theorem cut {x y : Code} (M : Fr → World → Prop) (h : x.wp P (Exit.then (fun a w => ∃ f, a = mk n f ∧ M f w) Q) (mk n f) w)
    (hy : ∀ f w, M f w → y.wp P Q (mk n f) w) : (Code.seq x y).wp P Q (mk n f) w := by
  refine wp_seq (Code.wp_mono ?_ h)
  intro e a w hq
  cases e with
  | normal => obtain ⟨f', rfl, hM⟩ := hq; exact hy _ _ hM
  | _ => exact hq
end code

attribute [irreducible] mk

#print axioms enter
#print axioms loop
#print axioms cut
end Go.Fl
end
/- The heap's state in a walk: a view that never turns, and a list of objects that the call may write. Conditions: none. -/
section
namespace Go.Fl
open Go Go.RowKit

/-- A part of the heap, block by block. -/
abbrev Hv := Nat → Option Obj

def Hv.cell (σ : Hv) (a : Addr) : Option Value :=
  match σ a.block with
  | some (.cells c _ _) => if a.spot.isSome then none else c[a.off]?
  | _ => none

def Sub (σ τ : Hv) : Prop := ∀ b o, σ b = some o → τ b = some o
def View (σ : Hv) (w : World) : Prop := ∀ b o, σ b = some o → w.heap[b]? = some o

theorem Sub.refl (σ : Hv) : Sub σ σ := fun _ _ h => h
theorem Sub.trans {a b c : Hv} (h : Sub a b) (k : Sub b c) : Sub a c := fun x o hx => k x o (h x o hx)
theorem Sub.cell {σ τ : Hv} (h : Sub σ τ) {a : Addr} {v : Value} (hc : σ.cell a = some v) : τ.cell a = some v := by
  unfold Hv.cell at *
  cases hb : σ a.block with
  | none => rw [hb] at hc; cases hc
  | some o => rw [h _ _ hb]; rw [hb] at hc; exact hc
theorem View.cell {σ : Hv} {w : World} (h : View σ w) {a : Addr} {v : Value} (hc : σ.cell a = some v) : w.cell? a = some v := by
  unfold Hv.cell at hc
  unfold World.cell?
  cases hb : σ a.block with
  | none => rw [hb] at hc; cases hc
  | some o => rw [h _ _ hb]; rw [hb] at hc; exact hc

/-- All but the blocks in M is as it was. -/
structure Keeps (M : List Nat) (w w' : World) : Prop where
  os : w'.os = w.os
  tape : w'.tape = w.tape
  output : w'.output = w.output
  size : w.heap.size ≤ w'.heap.size
  block : ∀ k, k < w.heap.size → k ∉ M → w'.heap[k]? = w.heap[k]?

theorem Keeps.refl (M : List Nat) (w : World) : Keeps M w w := ⟨rfl, rfl, rfl, Nat.le_refl _, fun _ _ _ => rfl⟩
theorem Keeps.trans {M : List Nat} {a b c : World} (h : Keeps M a b) (k : Keeps M b c) : Keeps M a c :=
  ⟨k.os.trans h.os, k.tape.trans h.tape, k.output.trans h.output, Nat.le_trans h.size k.size,
    fun i hi hm => (k.block i (Nat.lt_of_lt_of_le hi h.size) hm).trans (h.block i hi hm)⟩
theorem Keeps.mono {M N : List Nat} {a b : World} (h : Keeps M a b) (hs : ∀ k ∈ M, k ∈ N) : Keeps N a b :=
  ⟨h.os, h.tape, h.output, h.size, fun i hi hm => h.block i hi (fun hk => hm (hs i hk))⟩
theorem Keeps.drew {M : List Nat} {a w : World} (h : Keeps M a w) : Keeps M a w.drew := ⟨h.os, h.tape, h.output, h.size, h.block⟩
theorem Keeps.below {a b : World} (h : Keeps [] a b) : Below a.heap.size a b :=
  ⟨h.os, h.tape, h.output, h.size, fun k hk => h.block k hk (by simp)⟩

/-- An object that the call may write: the one block it lies in; what is known of it; that this hangs on that block alone. -/
structure HObj where
  foot : Option Nat
  ok : World → Prop
  stay : ∀ w w' : World, (∀ k, foot = some k → w'.heap[k]? = w.heap[k]?) → ok w → ok w'
  lt : ∀ (w : World) k, ok w → foot = some k → k < w.heap.size

/-- A block that is known whole. -/
def blk (b : Nat) (T : TypeId) (cs : List Value) : HObj where
  foot := some b
  ok w := w.heap[b]? = some (.cells cs.toArray T (0, 0))
  stay w w' h hk := (h b rfl).trans hk
  lt w k hk hf := by cases hf; exact lt_of_block hk

/-- A slice of the call's own. -/
def vec (v : Value) (T : TypeId) (size n : Nat) (xs : List Value) : HObj where
  foot := v.ownBlock
  ok w := w.ownsRow 0 T size v n xs
  stay w w' h hk := by
    obtain ⟨h1, h2⟩ := hk
    refine ⟨h1, ?_⟩
    rcases h2 with h2 | ⟨g, cap, cur, hv, hg, hh, r⟩
    · exact Or.inl h2
    · exact Or.inr ⟨g, cap, cur, hv, hg, (h g (by rw [hv]; rfl)).trans hh, r⟩
  lt w k hk hf := by
    obtain ⟨_, h2⟩ := hk
    rcases h2 with ⟨rfl, _⟩ | ⟨g, cap, cur, rfl, _, hh, _⟩
    · cases hf
    · cases hf; exact lt_of_block hh

structure Cx where
  w : World
  σ : Hv
  M : List Nat

structure St (c : Cx) (w : World) (σ : Hv) (ms : List HObj) : Prop where
  keeps : Keeps c.M c.w w
  view : View σ w
  sub : Sub c.σ σ
  fresh : ∀ b, b < c.w.heap.size → b ∉ c.M → σ b = c.σ b
  own : ∀ o ∈ ms, o.ok w
  sep : ms.Pairwise (fun a b => ∀ k, a.foot = some k → b.foot ≠ some k)
  off : ∀ o ∈ ms, ∀ k, o.foot = some k → σ k = none
  new : ∀ o ∈ ms, ∀ k, o.foot = some k → k ∈ c.M ∨ c.w.heap.size ≤ k

/-- What a call leaves: all but M is as it was; the view has grown by new blocks. -/
structure Grow (M : List Nat) (σ : Hv) (w : World) (σ1 : Hv) (w1 : World) : Prop where
  keeps : Keeps M w w1
  view : View σ1 w1
  sub : Sub σ σ1
  fresh : ∀ b, b < w.heap.size → b ∉ M → σ1 b = σ b

theorem Grow.refl {σ : Hv} {w : World} (h : View σ w) (M : List Nat) : Grow M σ w σ w := ⟨.refl _ _, h, .refl _, fun _ _ _ => rfl⟩
theorem Grow.trans {M : List Nat} {σ σ1 σ2 : Hv} {w w1 w2 : World} (h : Grow M σ w σ1 w1) (k : Grow M σ1 w1 σ2 w2) : Grow M σ w σ2 w2 :=
  ⟨h.keeps.trans k.keeps, k.view, h.sub.trans k.sub, fun b hb hm => (k.fresh b (Nat.lt_of_lt_of_le hb h.keeps.size) hm).trans (h.fresh b hb hm)⟩

theorem Grow.forget {M : List Nat} {σ σ1 : Hv} {w w1 : World} (h : Grow M σ w σ1 w1) : Grow M σ w σ w1 :=
  ⟨h.keeps, fun b o hb => h.view b o (h.sub b o hb), .refl _, fun _ _ _ => rfl⟩
theorem St.done {c : Cx} {w : World} {σ : Hv} {ms : List HObj} (h : St c w σ ms) : Grow c.M c.σ c.w σ w := ⟨h.keeps, h.view, h.sub, h.fresh⟩

/-- Back to a view that was. -/
theorem St.less {c : Cx} {w w1 : World} {σ σ1 : Hv} {ms ms1 : List HObj} (h : St c w σ ms) (h1 : St c w1 σ1 ms1) (hs : Sub σ1 σ) : St c w σ1 ms :=
  ⟨h.keeps, fun b o hb => h.view b o (hs b o hb), h1.sub, h1.fresh, h.own, h.sep,
    fun o ho k hk => by
      rcases hq : σ1 k with _ | x
      · rfl
      · have := hs k x hq; rw [h.off o ho k hk] at this; simp at this, h.new⟩

/-- At a function's start. -/
theorem St.start {w : World} {σ : Hv} (h : View σ w) : St ⟨w, σ, []⟩ w σ [] :=
  ⟨.refl _ _, h, .refl _, fun _ _ _ => rfl, by simp, by simp, by simp, by simp⟩
/-- At the start of a function that writes one object that came in. -/
theorem St.start1 {w : World} {σ : Hv} (h : View σ w) {o : HObj} {b : Nat} (ho : o.ok w) (hf : o.foot = some b) (hσ : σ b = none) : St ⟨w, σ, [b]⟩ w σ [o] :=
  ⟨.refl _ _, h, .refl _, fun _ _ _ => rfl, by simpa using ho, by simp, by simp only [List.mem_singleton]; rintro o' rfl k hk; rw [hf] at hk; cases hk; exact hσ,
   by simp only [List.mem_singleton]; rintro o' rfl k hk; rw [hf] at hk; cases hk; exact .inl rfl⟩

theorem St.drew {c : Cx} {w : World} {σ : Hv} {ms : List HObj} (h : St c w σ ms) : St c w.drew σ ms :=
  ⟨h.keeps.drew, h.view, h.sub, h.fresh, fun o ho => o.stay w w.drew (fun _ _ => rfl) (h.own o ho), h.sep, h.off, h.new⟩

/-- Fewer objects. -/
theorem St.sublist {c : Cx} {w : World} {σ : Hv} {ms ms' : List HObj} (h : St c w σ ms) (hs : ms'.Sublist ms) : St c w σ ms' :=
  ⟨h.keeps, h.view, h.sub, h.fresh, fun o ho => h.own o (hs.subset ho), h.sep.sublist hs, fun o ho => h.off o (hs.subset ho), fun o ho => h.new o (hs.subset ho)⟩

theorem St.get {c : Cx} {w : World} {σ : Hv} {ms : List HObj} (h : St c w σ ms) {i : Nat} {o : HObj} (hi : ms[i]? = some o) : o.ok w :=
  h.own o (List.mem_of_getElem? hi)

theorem sep_set {ms : List HObj} (h : ms.Pairwise (fun a b => ∀ k, a.foot = some k → b.foot ≠ some k)) {i : Nat} {o : HObj}
    (ho : ∀ j p, ms[j]? = some p → j ≠ i → ∀ k, o.foot = some k → p.foot ≠ some k) : (ms.set i o).Pairwise (fun a b => ∀ k, a.foot = some k → b.foot ≠ some k) := by
  rw [List.pairwise_iff_getElem] at *
  intro x y hx hy hlt
  have hx' : x < ms.length := by simpa using hx
  have hy' : y < ms.length := by simpa using hy
  rw [List.getElem_set, List.getElem_set]
  by_cases h1 : i = x
  · subst h1
    rw [if_pos rfl, if_neg (by omega)]
    exact ho y _ (List.getElem?_eq_getElem hy') (by omega)
  · by_cases h2 : i = y
    · subst h2
      rw [if_neg h1, if_pos rfl]
      intro k hk hk'
      exact ho x _ (List.getElem?_eq_getElem hx') (by omega) k hk' hk
    · rw [if_neg h1, if_neg h2]
      exact h x y hx' hy' hlt

theorem mem_set_cases {ms : List HObj} {i : Nat} {o p : HObj} (h : p ∈ ms.set i o) : p = o ∨ ∃ j, j ≠ i ∧ ms[j]? = some p := by
  obtain ⟨j, hj⟩ := List.mem_iff_getElem?.1 h
  rw [List.getElem?_set] at hj
  by_cases hij : i = j
  · rw [if_pos hij] at hj
    split at hj
    · left; cases hj; rfl
    · cases hj
  · rw [if_neg hij] at hj
    exact .inr ⟨j, fun e => hij e.symm, hj⟩

theorem St.apart {c : Cx} {w : World} {σ : Hv} {ms : List HObj} (h : St c w σ ms) {i j : Nat} {o p : HObj} (hi : ms[i]? = some o) (hj : ms[j]? = some p) (hne : j ≠ i) :
    ∀ k, o.foot = some k → p.foot ≠ some k := by
  have hs := List.pairwise_iff_getElem.1 h.sep
  obtain ⟨hil, rfl⟩ := List.getElem?_eq_some_iff.1 hi
  obtain ⟨hjl, rfl⟩ := List.getElem?_eq_some_iff.1 hj
  intro k hk hk'
  rcases Nat.lt_or_gt_of_ne hne with hlt | hlt
  · exact hs j i hjl hil hlt k hk' hk
  · exact hs i j hil hjl hlt k hk hk'

/-- The world turns in object i alone, and new blocks; the object is another, in the same block or a new one. -/
theorem St.step {c : Cx} {w w' : World} {σ : Hv} {ms ms' : List HObj} (h : St c w σ ms) {i : Nat} {o o' : HObj} (hi : ms[i]? = some o)
    (hk : Keeps (o.foot.toList) w w') (ho : o'.ok w') (hf : ∀ k, o'.foot = some k → o.foot = some k ∨ w.heap.size ≤ k) (hms : ms.set i o' = ms')
    (hnone : ∀ k, w.heap.size ≤ k → σ k = none) : St c w' σ ms' := by
  subst hms
  have hin := List.mem_of_getElem? hi
  have hfar : ∀ j p, j ≠ i → ms[j]? = some p → ∀ k, p.foot = some k → w'.heap[k]? = w.heap[k]? := by
    intro j p hji hj k hpk
    refine hk.block k (p.lt w k (h.get hj) hpk) ?_
    intro hm
    rw [Option.mem_toList] at hm
    exact h.apart hi hj hji k hm hpk
  refine ⟨?_, ?_, h.sub, h.fresh, ?_, ?_, ?_, ?_⟩
  · refine ⟨hk.os.trans h.keeps.os, hk.tape.trans h.keeps.tape, hk.output.trans h.keeps.output, Nat.le_trans h.keeps.size hk.size, fun k hlt hm => ?_⟩
    refine (hk.block k (Nat.lt_of_lt_of_le hlt h.keeps.size) ?_).trans (h.keeps.block k hlt hm)
    intro hm'
    rw [Option.mem_toList] at hm'
    rcases h.new o hin k hm' with hM | hge
    · exact hm hM
    · omega
  · intro b ob hb
    have hw := h.view b ob hb
    rw [hk.block b (lt_of_block hw) ?_]
    · exact hw
    · intro hm'
      rw [Option.mem_toList] at hm'
      rw [h.off o hin b hm'] at hb
      cases hb
  · intro p hp
    rcases mem_set_cases hp with rfl | ⟨j, hji, hj⟩
    · exact ho
    · exact p.stay w w' (hfar j p hji hj) (h.get hj)
  · refine sep_set h.sep fun j p hj hji k hok hpk => ?_
    rcases hf k hok with hs | hge
    · exact h.apart hi hj hji k hs hpk
    · have := p.lt w k (h.get hj) hpk
      omega
  · intro p hp k hpk
    rcases mem_set_cases hp with rfl | ⟨j, hji, hj⟩
    · rcases hf k hpk with hs | hge
      · exact h.off o hin k hs
      · exact hnone k hge
    · exact h.off p (List.mem_of_getElem? hj) k hpk
  · intro p hp k hpk
    rcases mem_set_cases hp with rfl | ⟨j, hji, hj⟩
    · rcases hf k hpk with hs | hge
      · exact h.new o hin k hs
      · exact .inr (Nat.le_trans h.keeps.size hge)
    · exact h.new p (List.mem_of_getElem? hj) k hpk

theorem View.none_of_ge {σ : Hv} {w : World} (h : View σ w) : ∀ k, w.heap.size ≤ k → σ k = none := by
  intro k hk
  cases hb : σ k with
  | none => rfl
  | some o =>
    have := lt_of_block (h k o hb)
    omega

/-- A new object in new blocks. -/
theorem St.add {c : Cx} {w w' : World} {σ : Hv} {ms : List HObj} (h : St c w σ ms) {o : HObj} (hk : Keeps [] w w') (ho : o.ok w')
    (hf : ∀ k, o.foot = some k → w.heap.size ≤ k) : St c w' σ (o :: ms) := by
  have hfar : ∀ p ∈ ms, ∀ k, p.foot = some k → w'.heap[k]? = w.heap[k]? := fun p hp k hpk => hk.block k (p.lt w k (h.own p hp) hpk) (by simp)
  refine ⟨h.keeps.trans (hk.mono (by simp)), ?_, h.sub, h.fresh, ?_, ?_, ?_, ?_⟩
  · intro b ob hb
    have hw := h.view b ob hb
    rw [hk.block b (lt_of_block hw) (by simp)]
    exact hw
  · intro p hp
    rcases List.mem_cons.1 hp with rfl | hp
    · exact ho
    · exact p.stay w w' (hfar p hp) (h.own p hp)
  · refine List.pairwise_cons.2 ⟨fun p hp k hok hpk => ?_, h.sep⟩
    have := p.lt w k (h.own p hp) hpk
    have := hf k hok
    omega
  · intro p hp k hpk
    rcases List.mem_cons.1 hp with rfl | hp
    · exact h.view.none_of_ge k (hf k hpk)
    · exact h.off p hp k hpk
  · intro p hp k hpk
    rcases List.mem_cons.1 hp with rfl | hp
    · exact .inr (Nat.le_trans h.keeps.size (hf k hpk))
    · exact h.new p hp k hpk

/-- A nil slice is an object without a block. -/
theorem St.addNil {c : Cx} {w : World} {σ : Hv} {ms : List HObj} (h : St c w σ ms) (T : TypeId) (size : Nat) : St c w σ (vec (.slice none 0 0) T size 0 [] :: ms) :=
  h.add (.refl _ _) (World.ownsRow_nil _ _ _ _) (by intro k hk; cases hk)

/-- Behind a call that writes nothing that was there. -/
theorem St.grow {c : Cx} {w w1 : World} {σ σ1 : Hv} {ms : List HObj} (h : St c w σ ms) (g : Grow [] σ w σ1 w1) : St c w1 σ1 ms := by
  refine ⟨h.keeps.trans (g.keeps.mono (by simp)), g.view, h.sub.trans g.sub, ?_, ?_, h.sep, ?_, h.new⟩
  · intro b hb hm
    rw [g.fresh b (Nat.lt_of_lt_of_le hb h.keeps.size) (by simp), h.fresh b hb hm]
  · intro o ho
    exact o.stay w w1 (fun k hk => g.keeps.block k (o.lt w k (h.own o ho) hk) (by simp)) (h.own o ho)
  · intro o ho k hk
    rw [g.fresh k (o.lt w k (h.own o ho) hk) (by simp)]
    exact h.off o ho k hk

/-- The blocks of some objects. -/
def feet (ms : List HObj) : List Nat := ms.flatMap fun o => o.foot.toList
theorem mem_feet {ms : List HObj} {k : Nat} : k ∈ feet ms ↔ ∃ o ∈ ms, o.foot = some k := by
  simp [feet, Option.mem_toList]
/-- What a call may write is handed to it. -/
theorem St.inner {c : Cx} {w : World} {σ : Hv} {ins rest : List HObj} (h : St c w σ (ins ++ rest)) : St ⟨w, σ, feet ins⟩ w σ ins :=
  ⟨.refl _ _, h.view, .refl _, fun _ _ _ => rfl, fun o ho => h.own o (by simp [ho]), (List.pairwise_append.1 h.sep).1, fun o ho => h.off o (by simp [ho]), fun o ho k hk => .inl (mem_feet.2 ⟨o, ho, hk⟩)⟩
/-- Behind a call that writes some objects, and lays new ones. -/
theorem St.callM {c : Cx} {w w1 : World} {σ σ1 : Hv} {ins outs rest ms' : List HObj} (h : St c w σ (ins ++ rest)) (k : St ⟨w, σ, feet ins⟩ w1 σ1 outs) (hms : outs ++ rest = ms') : St c w1 σ1 ms' := by
  subst hms
  have hsep := List.pairwise_append.1 h.sep
  have hfar : ∀ p ∈ rest, ∀ j, p.foot = some j → j ∉ feet ins := fun p hp j hj hm => by
    obtain ⟨o, ho, hoj⟩ := mem_feet.1 hm
    exact hsep.2.2 o ho p hp j hoj hj
  have hrest : ∀ p ∈ rest, ∀ j, p.foot = some j → j < w.heap.size := fun p hp j hj => p.lt w j (h.own p (by simp [hp])) hj
  have hM : ∀ j ∈ feet ins, j ∈ c.M ∨ c.w.heap.size ≤ j := fun j hj => by
    obtain ⟨o, ho, hoj⟩ := mem_feet.1 hj
    exact h.new o (by simp [ho]) j hoj
  refine ⟨?_, k.view, h.sub.trans k.sub, ?_, ?_, ?_, ?_, ?_⟩
  · refine ⟨k.keeps.os.trans h.keeps.os, k.keeps.tape.trans h.keeps.tape, k.keeps.output.trans h.keeps.output, Nat.le_trans h.keeps.size k.keeps.size, fun j hlt hm => ?_⟩
    refine (k.keeps.block j (Nat.lt_of_lt_of_le hlt h.keeps.size) fun hj => ?_).trans (h.keeps.block j hlt hm)
    rcases hM j hj with h1 | h1
    · exact hm h1
    · omega
  · intro b hb hm
    refine (k.fresh b (Nat.lt_of_lt_of_le hb h.keeps.size) fun hj => ?_).trans (h.fresh b hb hm)
    rcases hM b hj with h1 | h1
    · exact hm h1
    · omega
  · intro p hp
    rcases List.mem_append.1 hp with hp | hp
    · exact k.own p hp
    · exact p.stay w w1 (fun j hj => k.keeps.block j (hrest p hp j hj) (hfar p hp j hj)) (h.own p (by simp [hp]))
  · refine List.pairwise_append.2 ⟨k.sep, hsep.2.1, fun o ho p hp j hoj hpj => ?_⟩
    rcases k.new o ho j hoj with h1 | h1
    · exact hfar p hp j hpj h1
    · exact Nat.lt_irrefl _ (Nat.lt_of_lt_of_le (hrest p hp j hpj) h1)
  · intro p hp j hj
    rcases List.mem_append.1 hp with hp | hp
    · exact k.off p hp j hj
    · rw [k.fresh j (hrest p hp j hj) (hfar p hp j hj)]
      exact h.off p (by simp [hp]) j hj
  · intro p hp j hj
    rcases List.mem_append.1 hp with hp | hp
    · rcases k.new p hp j hj with h1 | h1
      · exact hM j h1
      · exact .inr (Nat.le_trans h.keeps.size h1)
    · exact h.new p (by simp [hp]) j hj
/-- The view that was, where the call hands back nothing that is read. -/
theorem St.back {w w1 : World} {σ τ τ1 : Hv} {M : List Nat} {outs : List HObj} (k : St ⟨w, τ, M⟩ w1 τ1 outs) (hs : Sub σ τ) : St ⟨w, σ, M⟩ w1 σ outs := by
  refine ⟨k.keeps, fun b o hb => k.view b o (k.sub b o (hs b o hb)), .refl _, fun _ _ _ => rfl, k.own, k.sep, fun o ho j hj => ?_, k.new⟩
  rcases hq : σ j with _ | x
  · rfl
  · have := k.sub j x (hs j x hq)
    rw [k.off o ho j hj] at this; cases this

/-- Behind a call that writes object i. -/
theorem St.growM {c : Cx} {w w1 : World} {σ : Hv} {ms ms' : List HObj} (h : St c w σ ms) {b : Nat} (g : Grow [b] σ w σ w1) {i : Nat} {o o' : HObj} (hi : ms[i]? = some o)
    (hf : o.foot = some b) (hf' : o'.foot = some b) (ho : o'.ok w1) (hms : ms.set i o' = ms') : St c w1 σ ms' :=
  h.step hi (by rw [hf]; exact g.keeps) ho (fun k hk => .inl (by rw [hf, ← hf']; exact hk)) hms h.view.none_of_ge

/-- An object of the call's own is written no more: it joins the view. -/
theorem St.freeze' {c : Cx} {w : World} {σ : Hv} {ms ms' : List HObj} (h : St c w σ ms) {i : Nat} {o : HObj} (hi : ms[i]? = some o)
    (hms : ms.eraseIdx i = ms') : ∃ σ1, St c w σ1 ms' ∧ Sub σ σ1 ∧ ∀ k, o.foot = some k → σ1 k = w.heap[k]? := by
  subst hms
  have hin := List.mem_of_getElem? hi
  refine ⟨fun k => if o.foot = some k then w.heap[k]? else σ k, ⟨h.keeps, ?_, ?_, ?_, ?_, ?_, ?_, ?_⟩, ?_, ?_⟩
  · intro b ob hb
    simp only at hb
    split at hb
    · exact hb
    · exact h.view b ob hb
  · intro b ob hb
    have h1 := h.sub b ob hb
    simp only
    rw [if_neg ?_]
    · exact h1
    · intro hf
      rw [h.off o hin b hf] at h1; cases h1
  · intro b hb hm
    refine (if_neg ?_).trans (h.fresh b hb hm)
    intro hf
    rcases h.new o hin b hf with h1 | hge
    · exact hm h1
    · omega
  · exact fun p hp => h.own p (List.mem_of_mem_eraseIdx hp)
  · exact h.sep.sublist (List.eraseIdx_sublist _ _)
  · intro p hp k hpk
    obtain ⟨j, hj, hp'⟩ := List.mem_eraseIdx_iff_getElem?.1 hp
    refine (if_neg ?_).trans (h.off p (List.mem_of_getElem? hp') k hpk)
    intro hf
    exact h.apart hi hp' hj k hf hpk
  · exact fun p hp => h.new p (List.mem_of_mem_eraseIdx hp)
  · intro b ob hb
    refine (if_neg ?_).trans hb
    intro hf
    rw [h.off o hin b hf] at hb; cases hb
  · intro k hk
    exact if_pos hk

#print axioms St.step
end Go.Fl
end
/- One rule an operation, over frames as functions: plain values. Conditions: none; every rule speaks of any program. -/
section
namespace Go.Fl
open Go Go.RowKit

variable {P : Program} {ops : Array Oper} {Q : Exit → Act → World → Prop} {rest : List Oper} {n : Nat} {f : Fr} {w w' : World} {d : Nat} {t : TypeId} {p : String} {af : Array Edge}

theorem o_val {o : Oper} {v : Value} (hd : o.dst = some d) (hg : o.guard = none) (hrun : (execOp (ev n f) o).run P w = .ok (.value v) w')
    (h : wpList P ops Q rest (mk n (upd f d v)) w') : wpList P ops Q (o :: rest) (mk n f) w := by
  refine wpList_plain hg fun K hK => ?_
  unfold Oper.wp
  rw [eval_mk, hrun]
  show K ((mk n f).put o.dst v) w'
  rw [hd, put_mk]
  exact hK _ _ h

theorem o_skip {o : Oper} (hd : o.dst = none) (hg : o.guard = none) (hrun : (execOp (ev n f) o).run P w = .ok .skip w')
    (h : wpList P ops Q rest (mk n f) w') : wpList P ops Q (o :: rest) (mk n f) w := by
  refine wpList_plain hg fun K hK => ?_
  unfold Oper.wp
  rw [eval_mk, hrun]
  show K ((mk n f).put o.dst undef) w'
  rw [hd, put_none]
  exact hK _ _ h

theorem o_enter {o : Oper} {fid : FuncId} {args : Array Value} (hg : o.guard = none) (hd : o.dst = some d) (hrun : (execOp (ev n f) o).run P w = .ok (.enter fid args) w)
    (hc : Calls P fid args w fun e w1 => ∃ v, e = .returned v ∧ wpList P ops Q rest (mk n (upd f d v)) w1) : wpList P ops Q (o :: rest) (mk n f) w := by
  refine wpList_plain hg fun K hK => ?_
  unfold Oper.wp
  rw [eval_mk, hrun]
  refine hc.mono ?_
  rintro e w1 ⟨v, rfl, h⟩
  show K ((mk n f).put o.dst v) w1
  rw [hd, put_mk]
  exact hK _ _ h

/-- A guarded operation that is carried out. -/
theorem o_on {dst : Option Nat} {op : Op} {j dj : Nat} {b : Bool} (hj : (ops[j]?).bind (·.dst) = some dj) (hv : ev n f (.tmp dj) = .bool b)
    (h : wpList P ops Q (⟨dst, op, t, p, af, none⟩ :: rest) (mk n f) w) : wpList P ops Q (⟨dst, op, t, p, af, some (j, b)⟩ :: rest) (mk n f) w := by
  have hw : Region.wanted ⟨dst, op, t, p, af, some (j, b)⟩ (yielded ops (mk n f).tmps) = true := by
    have h2 : (mk n f).tmps.getD dj undef = .bool b := res_ev hv
    have h3 : (mk n f).tmps[dj]? = some (.bool b) := by
      rw [Array.getD_eq_getD_getElem?] at h2
      cases hx : (mk n f).tmps[dj]? with
      | none => rw [hx] at h2; cases h2
      | some x => rw [hx] at h2; exact congrArg some h2
    simp [Region.wanted, yielded, hj, h3]
  unfold wpList at h ⊢
  rw [if_pos hw]
  rw [if_pos (by simp [Region.wanted])] at h
  exact h
/-- A guarded operation that is passed over. -/
theorem o_off {op : Op} {j dj : Nat} {b : Bool} (hj : (ops[j]?).bind (·.dst) = some dj) (hv : ev n f (.tmp dj) = .bool (!b))
    (h : wpList P ops Q rest (mk n (upd f d undef)) w) : wpList P ops Q (⟨some d, op, t, p, af, some (j, b)⟩ :: rest) (mk n f) w := by
  have hw : Region.wanted ⟨some d, op, t, p, af, some (j, b)⟩ (yielded ops (mk n f).tmps) = false := by
    have h2 : (mk n f).tmps.getD dj undef = .bool (!b) := res_ev hv
    have h3 : (mk n f).tmps[dj]? = some (.bool (!b)) := by
      rw [Array.getD_eq_getD_getElem?] at h2
      cases hx : (mk n f).tmps[dj]? with
      | none => rw [hx] at h2; cases h2
      | some x => rw [hx] at h2; exact congrArg some h2
    simp [Region.wanted, yielded, hj, h3]
  unfold wpList
  rw [if_neg (by rw [hw]; simp)]
  rw [put_mk]
  exact h
theorem o_offn {op : Op} {j dj : Nat} {b : Bool} (hj : (ops[j]?).bind (·.dst) = some dj) (hv : ev n f (.tmp dj) = .bool (!b))
    (h : wpList P ops Q rest (mk n f) w) : wpList P ops Q (⟨none, op, t, p, af, some (j, b)⟩ :: rest) (mk n f) w := by
  have hw : Region.wanted ⟨none, op, t, p, af, some (j, b)⟩ (yielded ops (mk n f).tmps) = false := by
    have h2 : (mk n f).tmps.getD dj undef = .bool (!b) := res_ev hv
    have h3 : (mk n f).tmps[dj]? = some (.bool (!b)) := by
      rw [Array.getD_eq_getD_getElem?] at h2
      cases hx : (mk n f).tmps[dj]? with
      | none => rw [hx] at h2; cases h2
      | some x => rw [hx] at h2; exact congrArg some h2
    simp [Region.wanted, yielded, hj, h3]
  unfold wpList
  rw [if_neg (by rw [hw]; simp)]
  exact h

theorem o_move {x : Operand} {v : Value} (hx : ev n f x = v) (h : wpList P ops Q rest (mk n (upd f d v)) w) :
    wpList P ops Q (⟨some d, .move x, t, p, af, none⟩ :: rest) (mk n f) w := o_val rfl rfl (by subst hx; rfl) h
theorem o_assign {x : Operand} {v : Value} (hx : ev n f x = v) (h : wpList P ops Q rest (mk n (upd f d v)) w) :
    wpList P ops Q (⟨some d, .assign x, t, p, af, none⟩ :: rest) (mk n f) w := o_val rfl rfl (by subst hx; rfl) h
theorem o_pick_t {c x y : Operand} {v : Value} (hc : ev n f c = .bool true) (hx : ev n f x = v) (h : wpList P ops Q rest (mk n (upd f d v)) w) :
    wpList P ops Q (⟨some d, .pick c x y, t, p, af, none⟩ :: rest) (mk n f) w := o_val rfl rfl (by subst hx; simp [execOp, hc, asBool]) h
theorem o_pick_f {c x y : Operand} {v : Value} (hc : ev n f c = .bool false) (hx : ev n f y = v) (h : wpList P ops Q rest (mk n (upd f d v)) w) :
    wpList P ops Q (⟨some d, .pick c x y, t, p, af, none⟩ :: rest) (mk n f) w := o_val rfl rfl (by subst hx; simp [execOp, hc, asBool]) h

/-- A slot's value, written otherwise. -/
theorem o_re {v v' : Value} (hv : v = v') (h : wpList P ops Q rest (mk n (upd f d v')) w) : wpList P ops Q rest (mk n (upd f d v)) w := by rw [hv]; exact h

/-! Integers. -/
theorem nw {a r : Int} (h : a = r) (h1 : -9223372036854775808 ≤ a) (h2 : a ≤ 9223372036854775807) : IntKind.i64.wrap a = r := by
  rw [IntKind.wrap_i64]; omega

theorem o_add {k : IntKind} {xt yt : TypeId} {x y : Operand} {a b r : Int} (hx : ev n f x = .int k a) (hy : ev n f y = .int k b) (hr : k.wrap (a + b) = r)
    (h : wpList P ops Q rest (mk n (upd f d (.int k r))) w) : wpList P ops Q (⟨some d, .binOp .add xt x y yt, t, p, af, none⟩ :: rest) (mk n f) w :=
  o_val rfl rfl (by subst hr; simp [execOp, hx, hy, eqGuard, binOp, Op.intArith]) h
theorem o_sub {k : IntKind} {xt yt : TypeId} {x y : Operand} {a b r : Int} (hx : ev n f x = .int k a) (hy : ev n f y = .int k b) (hr : k.wrap (a - b) = r)
    (h : wpList P ops Q rest (mk n (upd f d (.int k r))) w) : wpList P ops Q (⟨some d, .binOp .sub xt x y yt, t, p, af, none⟩ :: rest) (mk n f) w :=
  o_val rfl rfl (by subst hr; simp [execOp, hx, hy, eqGuard, binOp, Op.intArith]) h
theorem o_mul {k : IntKind} {xt yt : TypeId} {x y : Operand} {a b r : Int} (hx : ev n f x = .int k a) (hy : ev n f y = .int k b) (hr : k.wrap (a * b) = r)
    (h : wpList P ops Q rest (mk n (upd f d (.int k r))) w) : wpList P ops Q (⟨some d, .binOp .mul xt x y yt, t, p, af, none⟩ :: rest) (mk n f) w :=
  o_val rfl rfl (by subst hr; simp [execOp, hx, hy, eqGuard, binOp, Op.intArith]) h
theorem o_rem {k : IntKind} {xt yt : TypeId} {x y : Operand} {a b r : Int} (hx : ev n f x = .int k a) (hy : ev n f y = .int k b) (hb : b ≠ 0) (hr : a.tmod b = r)
    (h : wpList P ops Q rest (mk n (upd f d (.int k r))) w) : wpList P ops Q (⟨some d, .binOp .rem xt x y yt, t, p, af, none⟩ :: rest) (mk n f) w :=
  o_val rfl rfl (by subst hr; simp [execOp, hx, hy, eqGuard, binOp, Op.intDiv, hb]) h
theorem o_quo {k : IntKind} {xt yt : TypeId} {x y : Operand} {a b r : Int} (hx : ev n f x = .int k a) (hy : ev n f y = .int k b) (hb : b ≠ 0) (hr : k.wrap (a.tdiv b) = r)
    (h : wpList P ops Q rest (mk n (upd f d (.int k r))) w) : wpList P ops Q (⟨some d, .binOp .quo xt x y yt, t, p, af, none⟩ :: rest) (mk n f) w :=
  o_val rfl rfl (by subst hr; simp [execOp, hx, hy, eqGuard, binOp, Op.intDiv, hb]) h

/-- A comparison of integers, as a truth value. -/
def cmpI : BinOp → Int → Int → Bool
  | .eql, a, b => decide (a = b)
  | .neq, a, b => !decide (a = b)
  | .lss, a, b => decide (a < b)
  | .leq, a, b => decide (a ≤ b)
  | .gtr, a, b => decide (b < a)
  | .geq, a, b => decide (b ≤ a)
  | _, _, _ => false
theorem o_cmp {op : BinOp} {k : IntKind} {xt yt : TypeId} {x y : Operand} {a b : Int} {r : Bool} (hx : ev n f x = .int k a) (hy : ev n f y = .int k b)
    (hop : op = .eql ∨ op = .neq ∨ op = .lss ∨ op = .leq ∨ op = .gtr ∨ op = .geq) (hr : cmpI op a b = r)
    (h : wpList P ops Q rest (mk n (upd f d (.bool r))) w) : wpList P ops Q (⟨some d, .binOp op xt x y yt, t, p, af, none⟩ :: rest) (mk n f) w := by
  refine o_val rfl rfl ?_ h
  subst hr
  rcases hop with rfl | rfl | rfl | rfl | rfl | rfl <;> simp [execOp, hx, hy, eqGuard, binOp, Op.intCmp, cmpI]
  · by_cases h : a = b <;> simp [h]
  · by_cases h : a = b <;> simp [h]

theorem o_eql {k : IntKind} {xt yt : TypeId} {x y : Operand} {a b : Int} {r : Bool} (hx : ev n f x = .int k a) (hy : ev n f y = .int k b) (hr : decide (a = b) = r)
    (h : wpList P ops Q rest (mk n (upd f d (.bool r))) w) : wpList P ops Q (⟨some d, .binOp .eql xt x y yt, t, p, af, none⟩ :: rest) (mk n f) w := o_cmp hx hy (by simp) hr h
theorem o_neq {k : IntKind} {xt yt : TypeId} {x y : Operand} {a b : Int} {r : Bool} (hx : ev n f x = .int k a) (hy : ev n f y = .int k b) (hr : (!decide (a = b)) = r)
    (h : wpList P ops Q rest (mk n (upd f d (.bool r))) w) : wpList P ops Q (⟨some d, .binOp .neq xt x y yt, t, p, af, none⟩ :: rest) (mk n f) w := o_cmp hx hy (by simp) hr h
theorem o_lss {k : IntKind} {xt yt : TypeId} {x y : Operand} {a b : Int} {r : Bool} (hx : ev n f x = .int k a) (hy : ev n f y = .int k b) (hr : decide (a < b) = r)
    (h : wpList P ops Q rest (mk n (upd f d (.bool r))) w) : wpList P ops Q (⟨some d, .binOp .lss xt x y yt, t, p, af, none⟩ :: rest) (mk n f) w := o_cmp hx hy (by simp) hr h
theorem o_leq {k : IntKind} {xt yt : TypeId} {x y : Operand} {a b : Int} {r : Bool} (hx : ev n f x = .int k a) (hy : ev n f y = .int k b) (hr : decide (a ≤ b) = r)
    (h : wpList P ops Q rest (mk n (upd f d (.bool r))) w) : wpList P ops Q (⟨some d, .binOp .leq xt x y yt, t, p, af, none⟩ :: rest) (mk n f) w := o_cmp hx hy (by simp) hr h
theorem o_gtr {k : IntKind} {xt yt : TypeId} {x y : Operand} {a b : Int} {r : Bool} (hx : ev n f x = .int k a) (hy : ev n f y = .int k b) (hr : decide (b < a) = r)
    (h : wpList P ops Q rest (mk n (upd f d (.bool r))) w) : wpList P ops Q (⟨some d, .binOp .gtr xt x y yt, t, p, af, none⟩ :: rest) (mk n f) w := o_cmp hx hy (by simp) hr h
theorem o_geq {k : IntKind} {xt yt : TypeId} {x y : Operand} {a b : Int} {r : Bool} (hx : ev n f x = .int k a) (hy : ev n f y = .int k b) (hr : decide (b ≤ a) = r)
    (h : wpList P ops Q rest (mk n (upd f d (.bool r))) w) : wpList P ops Q (⟨some d, .binOp .geq xt x y yt, t, p, af, none⟩ :: rest) (mk n f) w := o_cmp hx hy (by simp) hr h
theorem o_not {xt : TypeId} {x : Operand} {b r : Bool} (hx : ev n f x = .bool b) (hr : (!b) = r)
    (h : wpList P ops Q rest (mk n (upd f d (.bool r))) w) : wpList P ops Q (⟨some d, .unOp .not xt x, t, p, af, none⟩ :: rest) (mk n f) w :=
  o_val rfl rfl (by subst hr; simp [execOp, hx, Op.unary]) h
theorem o_neg {k : IntKind} {xt : TypeId} {x : Operand} {a r : Int} (hx : ev n f x = .int k a) (hr : k.wrap (0 - a) = r)
    (h : wpList P ops Q rest (mk n (upd f d (.int k r))) w) : wpList P ops Q (⟨some d, .unOp .neg xt x, t, p, af, none⟩ :: rest) (mk n f) w :=
  o_val rfl rfl (by subst hr; simp [execOp, hx, Op.unary, Op.intArith]) h
/-- A conversion between integer types. -/
theorem o_conv {k k' : IntKind} {st dt : TypeId} {ds : TypeDesc} {x : Operand} {a r : Int} (hx : ev n f x = .int k a) (h1 : P.underlying st = some ds) (h2 : P.underlying dt = some (.int k')) (hr : k'.wrap a = r)
    (h : wpList P ops Q rest (mk n (upd f d (.int k' r))) w) : wpList P ops Q (⟨some d, .convert st dt x, t, p, af, none⟩ :: rest) (mk n f) w :=
  o_val rfl rfl (by subst hr; simp [execOp, hx, convert, run_underlying h1, run_underlying h2, Conv.intToInt]) h

/-! Strings. -/
theorem bytes_beq (a b : ByteArray) : (a.toList == b.toList) = decide (a = b) := by
  by_cases h : a = b
  · subst h; simp
  · have : a.toList ≠ b.toList := by
      intro e
      apply h
      have : a.data.toList = b.data.toList := by simpa [ByteArray.toList_eq] using e
      cases a; cases b
      simpa using this
    simp [h, this]
theorem o_eqls {xt yt : TypeId} {x y : Operand} {a b : ByteArray} {r : Bool} (hx : ev n f x = .string a) (hy : ev n f y = .string b) (hr : decide (a = b) = r)
    (h : wpList P ops Q rest (mk n (upd f d (.bool r))) w) : wpList P ops Q (⟨some d, .binOp .eql xt x y yt, t, p, af, none⟩ :: rest) (mk n f) w :=
  o_val rfl rfl (by subst hr; simp [execOp, hx, hy, eqGuard, binOp, Op.stringOp, bytes_beq]) h
theorem o_neqs {xt yt : TypeId} {x y : Operand} {a b : ByteArray} {r : Bool} (hx : ev n f x = .string a) (hy : ev n f y = .string b) (hr : (!decide (a = b)) = r)
    (h : wpList P ops Q rest (mk n (upd f d (.bool r))) w) : wpList P ops Q (⟨some d, .binOp .neq xt x y yt, t, p, af, none⟩ :: rest) (mk n f) w :=
  o_val rfl rfl (by subst hr; simp [execOp, hx, hy, eqGuard, binOp, Op.stringOp, bytes_beq]) h

/-- Two structs. -/
theorem o_eqlA {xt yt : TypeId} {x y : Operand} {a b : Value} {r : Bool} (hx : ev n f x = a) (hy : ev n f y = b) (hg : ∀ w, (eqGuard .eql xt x y a b).run P w = .ok () w) (hr : ∀ w, (binOp .eql xt a b).run P w = .ok (.bool r) w)
    (h : wpList P ops Q rest (mk n (upd f d (.bool r))) w) : wpList P ops Q (⟨some d, .binOp .eql xt x y yt, t, p, af, none⟩ :: rest) (mk n f) w :=
  o_val rfl rfl (by simp [execOp, hx, hy, hg, hr]) h
theorem o_neqA {xt yt : TypeId} {x y : Operand} {a b : Value} {r : Bool} (hx : ev n f x = a) (hy : ev n f y = b) (hg : ∀ w, (eqGuard .neq xt x y a b).run P w = .ok () w) (hr : ∀ w, (binOp .neq xt a b).run P w = .ok (.bool r) w)
    (h : wpList P ops Q rest (mk n (upd f d (.bool r))) w) : wpList P ops Q (⟨some d, .binOp .neq xt x y yt, t, p, af, none⟩ :: rest) (mk n f) w :=
  o_val rfl rfl (by simp [execOp, hx, hy, hg, hr]) h

/-! len, cap, min, max. -/
theorem o_len_slice {st e : TypeId} {x : Operand} {a : Option Addr} {len cap : Nat} (hx : ev n f x = .slice a len cap) (hu : P.underlying st = some (.slice e))
    (h : wpList P ops Q rest (mk n (upd f d (.int .i64 (len : Nat)))) w) : wpList P ops Q (⟨some d, .call ⟨.builtin .len, #[x], #[st]⟩, t, p, af, none⟩ :: rest) (mk n f) w :=
  o_val rfl rfl (by simp [execOp, hx, resolve, invoke, builtin, Builtin.len_, run_underlying hu, goInt]) h
theorem o_len_str {st : TypeId} {x : Operand} {s : ByteArray} (hx : ev n f x = .string s) (hu : P.underlying st = some .string)
    (h : wpList P ops Q rest (mk n (upd f d (.int .i64 (s.size : Nat)))) w) : wpList P ops Q (⟨some d, .call ⟨.builtin .len, #[x], #[st]⟩, t, p, af, none⟩ :: rest) (mk n f) w :=
  o_val rfl rfl (by simp [execOp, hx, resolve, invoke, builtin, Builtin.len_, run_underlying hu, goInt]) h
theorem o_len_nilmap {st k e : TypeId} {x : Operand} (hx : ev n f x = .map none) (hu : P.underlying st = some (.map k e))
    (h : wpList P ops Q rest (mk n (upd f d (.int .i64 0))) w) : wpList P ops Q (⟨some d, .call ⟨.builtin .len, #[x], #[st]⟩, t, p, af, none⟩ :: rest) (mk n f) w :=
  o_val rfl rfl (by simp [execOp, hx, resolve, invoke, builtin, Builtin.len_, run_underlying hu, goInt]) h
theorem o_max {k : IntKind} {tx ty : TypeId} {x y : Operand} {a b r : Int} (hx : ev n f x = .int k a) (hy : ev n f y = .int k b) (hr : max a b = r)
    (h : wpList P ops Q rest (mk n (upd f d (.int k r))) w) : wpList P ops Q (⟨some d, .call ⟨.builtin .max, #[x, y], #[tx, ty]⟩, t, p, af, none⟩ :: rest) (mk n f) w :=
  o_val rfl rfl (by
    have hm : max a b = (if b > a then b else a) := by omega
    subst hr; rw [hm]; simp [execOp, hx, hy, resolve, invoke, builtin, Builtin.max_, Builtin.max2]) h
theorem o_min {k : IntKind} {tx ty : TypeId} {x y : Operand} {a b r : Int} (hx : ev n f x = .int k a) (hy : ev n f y = .int k b) (hr : min a b = r)
    (h : wpList P ops Q rest (mk n (upd f d (.int k r))) w) : wpList P ops Q (⟨some d, .call ⟨.builtin .min, #[x, y], #[tx, ty]⟩, t, p, af, none⟩ :: rest) (mk n f) w :=
  o_val rfl rfl (by
    have hm : min a b = (if b < a then b else a) := by omega
    subst hr; rw [hm]; simp [execOp, hx, hy, resolve, invoke, builtin, Builtin.min_, Builtin.min2]) h

/-! Addresses. -/
theorem o_nil {x : Operand} {a : Addr} (hx : ev n f x = .pointer (some a)) (h : wpList P ops Q rest (mk n (upd f d (.pointer (some a)))) w) :
    wpList P ops Q (⟨some d, .nilCheck x, t, p, af, none⟩ :: rest) (mk n f) w := o_val rfl rfl (by simp [execOp, hx]) h
theorem o_faddr {s : TypeId} {fs : Array Field} {fld : Field} {x : Operand} {j sz : Nat} {a a' : Addr} (hx : ev n f x = .pointer (some a)) (hu : P.underlying s = some (.struct fs)) (hf : fs[j]? = some fld)
    (hs : ∀ w, (sizeOf fld.type).run P w = .ok (sz + 1) w) (ha : a.add fld.offset = a')
    (h : wpList P ops Q rest (mk n (upd f d (.pointer (some a')))) w) : wpList P ops Q (⟨some d, .fieldAddr s x j, t, p, af, none⟩ :: rest) (mk n f) w :=
  o_val rfl rfl (by subst ha; simp [execOp, hx, Instr.fieldAt, run_underlying hu, hf, Instr.sureAddr, fieldPlace, hs]) h
theorem o_iaddr_slice {st e : TypeId} {x y : Operand} {sz k : Nat} {i : Int} {a a' : Addr} {len cap : Nat} (hx : ev n f x = .slice (some a) len cap) (hy : ev n f y = .int .i64 i) (hi : i = (k : Int)) (hk : k < len)
    (hu : P.underlying st = some (.slice e)) (hs : ∀ w, (sizeOf e).run P w = .ok sz w) (ha : a.add (k * sz) = a')
    (h : wpList P ops Q rest (mk n (upd f d (.pointer (some a')))) w) : wpList P ops Q (⟨some d, .indexAddr st x y, t, p, af, none⟩ :: rest) (mk n f) w :=
  o_val rfl rfl (by
    subst ha; subst hi
    have h0 : 0 ≤ (k : Int) ∧ (k : Int) < (len : Int) := by omega
    simp [execOp, hx, hy, Instr.indexAt, asIntOf, run_underlying hu, hs, hk]) h
theorem o_iaddr_arr {st e : TypeId} {x y : Operand} {sz k len : Nat} {i : Int} {a a' : Addr} (hx : ev n f x = .pointer (some a)) (hy : ev n f y = .int .i64 i) (hi : i = (k : Int)) (hk : k < len)
    (hu : P.underlying st = some (.array len e)) (hs : ∀ w, (sizeOf e).run P w = .ok sz w) (ha : a.add (k * sz) = a')
    (h : wpList P ops Q rest (mk n (upd f d (.pointer (some a')))) w) : wpList P ops Q (⟨some d, .indexAddr st x y, t, p, af, none⟩ :: rest) (mk n f) w :=
  o_val rfl rfl (by
    subst ha; subst hi
    simp [execOp, hx, hy, Instr.indexAt, asIntOf, run_underlying hu, hs, hk, Instr.sureAddr]) h
/-- An element of one cell of an array that lies in a slot. -/
theorem o_index_arr {st e : TypeId} {x y : Operand} {k len : Nat} {i : Int} {cs : Array Value} {v : Value} (hx : ev n f x = .agg cs) (hy : ev n f y = .int .i64 i) (hi : i = (k : Int)) (hk : k < len)
    (hu : P.underlying st = some (.array len e)) (hs : ∀ w, (sizeOf e).run P w = .ok 1 w) (hagg : ∀ w, (isAgg e).run P w = .ok false w) (hv : cs[k]? = some v)
    (h : wpList P ops Q rest (mk n (upd f d v)) w) : wpList P ops Q (⟨some d, .index st x y, t, p, af, none⟩ :: rest) (mk n f) w :=
  o_val rfl rfl (by
    subst hi
    simp [execOp, hx, hy, Instr.index, asIntOf, run_underlying hu, hs, hk, part, hagg, hv]) h
/-- A field of one cell of a struct that lies in a slot. -/
theorem o_field1 {s : TypeId} {fs : Array Field} {fld : Field} {x : Operand} {j : Nat} {cs : Array Value} {v : Value} (hx : ev n f x = .agg cs) (hu : P.underlying s = some (.struct fs)) (hf : fs[j]? = some fld)
    (hagg : ∀ w, (isAgg fld.type).run P w = .ok false w) (hv : cs[fld.offset]? = some v)
    (h : wpList P ops Q rest (mk n (upd f d v)) w) : wpList P ops Q (⟨some d, .field s x j, t, p, af, none⟩ :: rest) (mk n f) w :=
  o_val rfl rfl (by simp [execOp, hx, Instr.field, run_underlying hu, hf, part, asAgg, hagg, hv]) h
theorem o_fieldA {s : TypeId} {fs : Array Field} {fld : Field} {x : Operand} {j sz : Nat} {cs : Array Value} {v : Array Value} (hx : ev n f x = .agg cs) (hu : P.underlying s = some (.struct fs)) (hf : fs[j]? = some fld)
    (hagg : ∀ w, (isAgg fld.type).run P w = .ok true w) (hs : ∀ w, (sizeOf fld.type).run P w = .ok sz w) (hv : cs.extract fld.offset (fld.offset + sz) = v)
    (h : wpList P ops Q rest (mk n (upd f d (.agg v))) w) : wpList P ops Q (⟨some d, .field s x j, t, p, af, none⟩ :: rest) (mk n f) w :=
  o_val rfl rfl (by subst hv; simp [execOp, hx, Instr.field, run_underlying hu, hf, part, asAgg, hagg, hs]) h
theorem o_extract {x : Operand} {j : Nat} {vs : Array Value} {v : Value} (hx : ev n f x = .tuple vs) (hv : vs[j]? = some v)
    (h : wpList P ops Q rest (mk n (upd f d v)) w) : wpList P ops Q (⟨some d, .extract x j, t, p, af, none⟩ :: rest) (mk n f) w :=
  o_val rfl rfl (by simp [execOp, hx, Instr.extract, hv]) h
theorem o_makefunc {fn : Fn} {a b : List Operand} {la lb : List Value} (ha : a.map (ev n f) = la) (hb : b.map (ev n f) = lb)
    (h : wpList P ops Q rest (mk n (upd f d (.func fn la.toArray lb.toArray))) w) : wpList P ops Q (⟨some d, .makeFunc fn a.toArray b.toArray, t, p, af, none⟩ :: rest) (mk n f) w :=
  o_val rfl rfl (by subst ha; subst hb; simp [execOp, Instr.makeFunc]) h

#print axioms o_cmp
#print axioms o_iaddr_slice
end Go.Fl
end
/- One rule an operation, over frames as functions: memory. Conditions: none; every rule speaks of any program. -/
section
namespace Go.Fl
open Go Go.RowKit

variable {P : Program} {ops : Array Oper} {Q : Exit → Act → World → Prop} {rest : List Oper} {n : Nat} {f : Fr} {w w' : World} {d : Nat} {t : TypeId} {p : String} {af : Array Edge}
variable {c : Cx} {σ : Hv} {ms ms' : List HObj}

theorem addr_lit (b o k : Nat) : (⟨b, o, none⟩ : Addr).add k = ⟨b, o + k, none⟩ := by unfold Addr.add; split <;> simp_all
theorem addr_add (a : Addr) (x y : Nat) : (a.add x).add y = a.add (x + y) := by
  unfold Addr.add
  by_cases hx : x = 0
  · subst hx; simp
  · by_cases hy : y = 0
    · subst hy; simp [hx]
    · simp [hx, hy, Nat.add_assoc]

/-- A row of cells that lies in the world at an address. -/
def Row (w : World) (a : Addr) (cs : List Value) : Prop := ∀ (j : Nat) v, cs[j]? = some v → w.cell? (a.add j) = some v
/-- The same, of a view. -/
def VRow (σ : Hv) (a : Addr) (cs : List Value) : Prop := ∀ (j : Nat) v, cs[j]? = some v → σ.cell (a.add j) = some v
theorem VRow.row {a : Addr} {cs : List Value} (h : VRow σ a cs) (hv : View σ w) : Row w a cs := fun j v hj => hv.cell (h j v hj)
theorem VRow.mono {τ : Hv} {a : Addr} {cs : List Value} (h : VRow σ a cs) (hs : Sub σ τ) : VRow τ a cs := fun j v hj => hs.cell (h j v hj)
theorem blk_row {b T : Nat} {cs : List Value} (h : (blk b T cs).ok w) : Row w ⟨b, 0, none⟩ cs := by
  intro j v hj
  have h' : w.heap[b]? = some (.cells cs.toArray T (0, 0)) := h
  rw [addr_lit, Nat.zero_add, cell_of_row w b j _ T (0, 0) h']
  simpa using hj
theorem Row.part {a : Addr} {cs ds : List Value} {o k : Nat} (h : Row w a cs) (hd : (cs.drop o).take k = ds) : Row w (a.add o) ds := by
  intro j v hj
  subst hd
  rw [addr_add]
  refine h (o + j) v ?_
  rw [List.getElem?_take] at hj
  split at hj
  · rw [List.getElem?_drop] at hj; exact hj
  · cases hj
theorem VRow.part {a : Addr} {cs ds : List Value} {o k : Nat} (h : VRow σ a cs) (hd : (cs.drop o).take k = ds) : VRow σ (a.add o) ds := by
  intro j v hj
  subst hd
  rw [addr_add]
  refine h (o + j) v ?_
  rw [List.getElem?_take] at hj
  split at hj
  · rw [List.getElem?_drop] at hj; exact hj
  · cases hj

/-! Loads. -/
theorem o_load {ty : TypeId} {x : Operand} {a : Addr} {v : Value} (hx : ev n f x = .pointer (some a)) (hagg : ∀ w, (isAgg ty).run P w = .ok false w) (hc : w.cell? a = some v)
    (h : wpList P ops Q rest (mk n (upd f d v)) w) : wpList P ops Q (⟨some d, .load ty x, t, p, af, none⟩ :: rest) (mk n f) w :=
  o_val rfl rfl (by simp [execOp, hx, Instr.loadAt, Instr.sureAddr, loadVar, hagg, load, Sem.run, hc]) h
theorem o_loadA {ty : TypeId} {x : Operand} {a : Addr} {cs : List Value} {k : Nat} (hx : ev n f x = .pointer (some a)) (hagg : ∀ w, (isAgg ty).run P w = .ok true w) (hs : ∀ w, (sizeOf ty).run P w = .ok k w)
    (hl : cs.length = k) (hc : Row w a cs)
    (h : wpList P ops Q rest (mk n (upd f d (.agg cs.toArray))) w) : wpList P ops Q (⟨some d, .load ty x, t, p, af, none⟩ :: rest) (mk n f) w :=
  o_val rfl rfl (by
    have hr := run_loadCells_list (P := P) w a cs hc
    rw [hl] at hr
    simp [execOp, hx, Instr.loadAt, Instr.sureAddr, loadVar, hagg, hs, hr]) h

theorem Row.cell {a : Addr} {cs : List Value} {v : Value} (h : Row w a cs) (j : Nat) (hj : cs[j]? = some v) {a' : Addr} (ha : a.add j = a') : w.cell? a' = some v := ha ▸ h j v hj
theorem VRow.cell {a : Addr} {cs : List Value} {v : Value} (h : VRow σ a cs) (hv : View σ w) (j : Nat) (hj : cs[j]? = some v) {a' : Addr} (ha : a.add j = a') : w.cell? a' = some v := ha ▸ hv.cell (h j v hj)
/-- A cell of a block that is known whole. -/
theorem St.cell (h : St c w σ ms) {i b T o : Nat} {cs : List Value} {v : Value} (hi : ms[i]? = some (blk b T cs)) (ho : cs[o]? = some v) : w.cell? ⟨b, o, none⟩ = some v :=
  (blk_row (h.get hi)).cell o ho (by rw [addr_lit, Nat.zero_add])

/-! Stores into a block that is known whole. -/
def splice (cs : List Value) (o : Nat) (vs : List Value) : List Value := cs.take o ++ vs ++ cs.drop (o + vs.length)
theorem splice_one (cs : List Value) (o : Nat) (v : Value) (h : o < cs.length) : splice cs o [v] = cs.set o v := by
  simp only [splice, List.length_singleton]
  rw [List.set_eq_take_append_cons_drop, if_pos h]
  simp

theorem setRow_keeps {b T : Nat} {cs : Array Value} (_h : w.heap[b]? = some (.cells cs T (0, 0))) (cs' : Array Value) : Keeps [b] w (w.setRow b cs') :=
  ⟨rfl, rfl, rfl, by simp, fun k _ hm => setRow_other w b k cs' (by simpa using hm)⟩

theorem o_store {ty : TypeId} {x y : Operand} {b T o k : Nat} {v : Value} {cs vs cs' : List Value} {i : Nat} (hS : St c w σ ms) (hx : ev n f x = .pointer (some ⟨b, o, none⟩)) (hy : ev n f y = v)
    (hvs : v.cells.toList = vs) (hs : ∀ w, (sizeOf ty).run P w = .ok k w) (hl : vs.length = k) (h1 : ∀ u ∈ vs, u.oneCell' = true)
    (hi : ms[i]? = some (blk b T cs)) (ho : o + k ≤ cs.length) (hcs : splice cs o vs = cs') (hms : ms.set i (blk b T cs') = ms')
    (h : ∀ w', St c w' σ ms' → wpList P ops Q rest (mk n f) w') : wpList P ops Q (⟨none, .store ty x y, t, p, af, none⟩ :: rest) (mk n f) w := by
  have hb : w.heap[b]? = some (.cells cs.toArray T (0, 0)) := hS.get hi
  have hr := run_storeCells_at P b o T vs 0 cs.toArray w hb (by simpa [hl] using ho) h1
  have hsz : v.cells.size = k := by rw [← Array.length_toList, hvs, hl]
  refine o_skip rfl rfl (w' := w.setRow b cs'.toArray) ?_ ?_
  · subst hcs
    simp only [Nat.add_zero] at hr
    have h2 : (storeVar ty ⟨b, o, none⟩ v).run P w = .ok () (w.setRow b (splice cs o vs).toArray) := by
      simp only [storeVar, Sem.run_bind, hs, Result.andThen_ok, hsz, hvs]
      simpa [splice] using hr
    simp [execOp, hx, hy, Instr.storeAt, Instr.sureAddr, h2]
  · refine h _ (hS.step (o' := blk b T cs') hi (setRow_keeps hb _) (setRow_heap w b cs.toArray _ T _ hb) (fun k hk => .inl hk) hms hS.view.none_of_ge)

theorem cells_agg (l : List Value) : (Value.agg l.toArray).cells.toList = l := rfl
theorem ones {vs : List Value} (h : vs.all (fun u => u.oneCell') = true) : ∀ u ∈ vs, u.oneCell' = true := by
  simpa using h
theorem St.drop (h : St c w σ ms) (i : Nat) (hms : ms.eraseIdx i = ms') : St c w σ ms' := h.sublist (hms ▸ List.eraseIdx_sublist _ _)

/-! New blocks. -/
theorem alloc_keeps (w : World) (o : Obj) : Keeps [] w (w.alloc o) := ⟨rfl, rfl, rfl, by simp, fun k hk _ => Below.heap_alloc w _ k hk⟩

theorem o_box {ty : TypeId} {x : Operand} {v : Value} {cs : List Value} (hS : St c w σ ms) (hx : ev n f x = v) (hcs : v.cells.toList = cs)
    (h : ∀ b w', St c w' σ (blk b ty cs :: ms) → wpList P ops Q rest (mk n (upd f d (.pointer (some ⟨b, 0, none⟩)))) w') : wpList P ops Q (⟨some d, .box ty x, t, p, af, none⟩ :: rest) (mk n f) w := by
  refine o_val rfl rfl (v := .pointer (some ⟨w.heap.size, 0, none⟩)) (w' := w.alloc (.cells v.cells ty)) ?_ ?_
  · simp [execOp, hx, Instr.box, newVar, newRow, newObj, Sem.run]
  · refine h _ _ (hS.add (alloc_keeps w _) ?_ (by rintro k ⟨⟩; exact Nat.le_refl _))
    show (w.alloc _).heap[w.heap.size]? = _
    rw [heap_alloc_new, ← hcs, Array.toArray_toList]
theorem o_alloc {ty : TypeId} {z : Value} {cs : List Value} (hS : St c w σ ms) (hz : ∀ w, (zeroValue ty).run P w = .ok z w) (hcs : z.cells.toList = cs)
    (h : ∀ b w', St c w' σ (blk b ty cs :: ms) → wpList P ops Q rest (mk n (upd f d (.pointer (some ⟨b, 0, none⟩)))) w') : wpList P ops Q (⟨some d, .alloc ty, t, p, af, none⟩ :: rest) (mk n f) w := by
  refine o_val rfl rfl (v := .pointer (some ⟨w.heap.size, 0, none⟩)) (w' := w.alloc (.cells z.cells ty)) ?_ ?_
  · simp [execOp, Instr.alloc, hz, newVar, newRow, newObj, Sem.run]
  · refine h _ _ (hS.add (alloc_keeps w _) ?_ (by rintro k ⟨⟩; exact Nat.le_refl _))
    show (w.alloc _).heap[w.heap.size]? = _
    rw [heap_alloc_new, ← hcs, Array.toArray_toList]
/-- A struct value out of its parts. -/
theorem o_build {ty : TypeId} {parts : Array (Nat × Operand)} {v : Value} (hb : ∀ w, (Instr.build ty (parts.map fun (i, x) => (i, ev n f x))).run P w = .ok v w)
    (h : wpList P ops Q rest (mk n (upd f d v)) w) : wpList P ops Q (⟨some d, .build ty parts, t, p, af, none⟩ :: rest) (mk n f) w :=
  o_val rfl rfl (by simp only [execOp, Sem.run_bind, hb, Result.andThen_ok]; rfl) h
/-- A slice out of its elements: a new block. -/
theorem o_bslice {ty e : TypeId} {len : Nat} {parts : Array (Nat × Operand)} {cs : List Value} (hS : St c w σ ms)
    (hb : ∀ w, (Instr.buildSlice ty len (parts.map fun (i, x) => (i, ev n f x))).run P w = .ok (.slice (some ⟨w.heap.size, 0, none⟩) len len) (w.alloc (.cells cs.toArray e)))
    (h : ∀ b w', St c w' σ (blk b e cs :: ms) → wpList P ops Q rest (mk n (upd f d (.slice (some ⟨b, 0, none⟩) len len))) w') : wpList P ops Q (⟨some d, .buildSlice ty len parts, t, p, af, none⟩ :: rest) (mk n f) w := by
  refine o_val rfl rfl (w' := w.alloc (.cells cs.toArray e)) (by simp only [execOp, Sem.run_bind, hb, Result.andThen_ok]; rfl) ?_
  refine h _ _ (hS.add (alloc_keeps w _) ?_ (by rintro k ⟨⟩; exact Nat.le_refl _))
  show (w.alloc _).heap[w.heap.size]? = _
  rw [heap_alloc_new]

/-- A block out of a slice literal as an owned slice. -/
theorem St.asVec (h : St c w σ ms) {i b T len size : Nat} {cs : List Value} (hi : ms[i]? = some (blk b T cs)) (hl : cs.length = len * size) (hm : len ≤ maxLen)
    (hms : ms.set i (vec (.slice (some ⟨b, 0, none⟩) len len) T size len cs) = ms') : St c w σ ms' := by
  refine h.step (o' := vec (.slice (some ⟨b, 0, none⟩) len len) T size len cs) hi (Keeps.refl _ _) ?_ (fun k hk => .inl hk) hms h.view.none_of_ge
  refine ⟨hl, .inr ⟨b, len, cs.toArray, rfl, Nat.zero_le _, h.get hi, Nat.le_refl _, hm, by simp [hl], ?_⟩⟩
  simp [← hl]

theorem made_one (z : Value) (k : Nat) : (madeCells #[z] k).toList = List.replicate k z := by
  apply List.ext_getElem
  · simp [madeCells]
  · intro i h1 h2
    simp [madeCells, Nat.mod_one]

/-- make([]T, k). -/
theorem o_make {ty e : TypeId} {l cc : Operand} {k size bytes : Nat} {i : TypeInfo} {z : Value} {L : Int} {xs : List Value} (hS : St c w σ ms) (hl : ev n f l = .int .i64 L) (hc : ev n f cc = .int .i64 L) (hL : L = (k : Int))
    (hu : P.underlying ty = some (.slice e)) (hi : P.info? e = some i) (hz : i.zero = some z) (hsz : i.size = size) (hby : i.bytes = bytes) (hb : bytes * k ≤ 281474976710656) (hm : k ≤ maxLen)
    (hxs : (madeCells z.cells (k * size)).toList = xs)
    (h : ∀ b w', St c w' σ (vec (.slice (some ⟨b, 0, none⟩) k k) e size k xs :: ms) → wpList P ops Q rest (mk n (upd f d (.slice (some ⟨b, 0, none⟩) k k))) w') :
    wpList P ops Q (⟨some d, .makeSlice ty l cc, t, p, af, none⟩ :: rest) (mk n f) w := by
  subst hL; subst hby; subst hxs
  obtain ⟨w', hr, ho, hg⟩ := run_make_full (P := P) w w.heap.size ty e i z size hu hi hz hsz .i64 .i64 k hb hm (Nat.le_refl _)
  refine o_val rfl rfl (by simp only [execOp, hl, hc, Sem.run_bind, hr, Result.andThen_ok]; rfl) (h _ _ (hS.add ⟨hg.os, hg.tape, hg.output, hg.size, fun k hk _ => hg.block k hk (by simp)⟩ ?_ (by rintro k ⟨⟩; exact Nat.le_refl _)))
  exact ⟨ho.1, ho.2.imp id fun ⟨g, cap, cur, h1, _, h3⟩ => ⟨g, cap, cur, h1, Nat.zero_le _, h3⟩⟩

/-! Slices of the call's own. -/
theorem vec_shape {v : Value} {T size k : Nat} {xs : List Value} (h : (vec v T size k xs).ok w) : xs.length = k * size ∧ ((v = .slice none 0 0 ∧ k = 0) ∨ ∃ g cap, v = .slice (some ⟨g, 0, none⟩) k cap ∧ k ≤ cap ∧ cap ≤ maxLen) := by
  obtain ⟨h1, h2⟩ := h
  exact ⟨h1, h2.imp id fun ⟨g, cap, cur, hv, _, _, hk, hm, _⟩ => ⟨g, cap, hv, hk, hm⟩⟩
theorem vec_pos {v : Value} {T size k : Nat} {xs : List Value} (h : (vec v T size k xs).ok w) (hk : 0 < k) : ∃ g cap, v = .slice (some ⟨g, 0, none⟩) k cap := by
  rcases (vec_shape h).2 with ⟨_, h0⟩ | ⟨g, cap, hv, _⟩
  · omega
  · exact ⟨g, cap, hv⟩
theorem vec_any {v : Value} {T size k : Nat} {xs : List Value} (h : (vec v T size k xs).ok w) : ∃ a cap, v = .slice a k cap := by
  rcases (vec_shape h).2 with ⟨hv, rfl⟩ | ⟨g, cap, hv, _⟩
  · exact ⟨_, _, hv⟩
  · exact ⟨_, _, hv⟩
theorem vec_one {v : Value} {T size k : Nat} {xs : List Value} (h : (vec v T size k xs).ok w) : v.oneCell' = true := by
  obtain ⟨a, cap, rfl⟩ := vec_any h; rfl
theorem vec_row {g cap T size k : Nat} {xs : List Value} (h : (vec (.slice (some ⟨g, 0, none⟩) k cap) T size k xs).ok w) : Row w ⟨g, 0, none⟩ xs :=
  World.ownsRow.cells h rfl

theorem o_len_vec {st e : TypeId} {x : Operand} {v : Value} {T size k i : Nat} {xs : List Value} (hS : St c w σ ms) (hx : ev n f x = v) (hi : ms[i]? = some (vec v T size k xs)) (hu : P.underlying st = some (.slice e))
    (h : wpList P ops Q rest (mk n (upd f d (.int .i64 (k : Nat)))) w) : wpList P ops Q (⟨some d, .call ⟨.builtin .len, #[x], #[st]⟩, t, p, af, none⟩ :: rest) (mk n f) w := by
  obtain ⟨a, cap, rfl⟩ := vec_any (hS.get hi)
  exact o_len_slice hx hu h

theorem splice_take {cur xs vs : List Value} {N o : Nat} (h : cur.take N = xs) (ho : o + vs.length ≤ N) (hN : N ≤ cur.length) :
    (cur.take o ++ vs ++ cur.drop (o + vs.length)).take N = splice xs o vs := by
  subst h
  unfold splice
  rw [List.take_append, List.take_append, List.take_take, List.take_take]
  have e1 : min N o = o := by omega
  have e2 : min o N = o := by omega
  have e3 : (cur.take o).length = o := by simp; omega
  rw [e1, e2, e3, List.take_of_length_le (by omega : vs.length ≤ N - o), List.drop_take]
  congr 2
  simp only [List.length_append, e3]

/-- A store into an owned slice. -/
theorem o_store_vec {ty : TypeId} {x y : Operand} {g cap T size k o j : Nat} {v : Value} {xs vs xs' : List Value} {i : Nat} (hS : St c w σ ms) (hx : ev n f x = .pointer (some ⟨g, o, none⟩)) (hy : ev n f y = v)
    (hvs : v.cells.toList = vs) (hs : ∀ w, (sizeOf ty).run P w = .ok j w) (hl : vs.length = j) (h1 : ∀ u ∈ vs, u.oneCell' = true)
    (hi : ms[i]? = some (vec (.slice (some ⟨g, 0, none⟩) k cap) T size k xs)) (ho : o + j ≤ k * size) (hxs : splice xs o vs = xs') (hms : ms.set i (vec (.slice (some ⟨g, 0, none⟩) k cap) T size k xs') = ms')
    (h : ∀ w', St c w' σ ms' → wpList P ops Q rest (mk n f) w') : wpList P ops Q (⟨none, .store ty x y, t, p, af, none⟩ :: rest) (mk n f) w := by
  have hv := hS.get hi
  obtain ⟨hlen, hor⟩ := hv
  rcases hor with ⟨hbad, _⟩ | ⟨g', cap', cur, heq, _, hb, hk, hm, hcur, htake⟩
  · cases hbad
  · obtain ⟨rfl, rfl⟩ : g = g' ∧ cap = cap' := by simpa using heq
    have hle : k * size ≤ cap * size := Nat.mul_le_mul_right _ hk
    have hr := run_storeCells_at P g o T vs 0 cur w hb (by rw [hl, hcur]; omega) h1
    simp only [Nat.add_zero] at hr
    have hsz : v.cells.size = j := by rw [← Array.length_toList, hvs, hl]
    refine o_skip rfl rfl (w' := w.setRow g (cur.toList.take o ++ vs ++ cur.toList.drop (o + vs.length)).toArray) ?_ ?_
    · have h2 : (storeVar ty ⟨g, o, none⟩ v).run P w = .ok () (w.setRow g (cur.toList.take o ++ vs ++ cur.toList.drop (o + vs.length)).toArray) := by
        simp only [storeVar, Sem.run_bind, hs, Result.andThen_ok, hsz, hvs]
        simpa using hr
      simp [execOp, hx, hy, Instr.storeAt, Instr.sureAddr, h2]
    · refine h _ (hS.step (o' := vec (.slice (some ⟨g, 0, none⟩) k cap) T size k xs') hi (setRow_keeps hb _) ?_ (fun k hk => .inl hk) hms hS.view.none_of_ge)
      subst hxs
      refine ⟨?_, .inr ⟨g, cap, _, rfl, Nat.zero_le _, setRow_heap w g cur _ T _ hb, hk, hm, ?_, ?_⟩⟩
      · unfold splice; simp only [List.length_append, List.length_take, List.length_drop]; omega
      · simp only [List.size_toArray, List.length_append, List.length_take, List.length_drop, Array.length_toList]; omega
      · exact splice_take htake (by omega) (by simp; omega)

/-- What an append to an owned slice does. -/
theorem run_app {ty' st e : TypeId} {i : TypeInfo} {z : Value} {size bytes : Nat} (hu : P.underlying st = some (.slice e)) (hi : P.info? e = some i) (hz : i.zero = some z)
    (hsz : i.size = size) (hby : i.bytes = bytes) (hzs : z.cells.size = size) (hpos : 0 < size) {v : Value} {k : Nat} {xs : List Value} (hown : (vec v e size k xs).ok w)
    {a : Addr} {m cc : Nat} {news : List Value} (hl : news.length = m * size) (hnews : Row w a news) (h1 : ∀ u ∈ news, u.oneCell' = true) (hb : (k + m) * bytes ≤ 140737488355328) (h63 : k + m ≤ maxLen) :
    ∃ v' w', (Builtin.append_ #[st, st] ty' #[v, .slice (some a) m cc]).run P w = .ok v' w' ∧ (vec v' e size (k + m) (xs ++ news)).ok w' ∧ Keeps v.ownBlock.toList w w' ∧
      (∀ b, v'.ownBlock = some b → v.ownBlock = some b ∨ w.heap.size ≤ b) := by
  have up : ∀ {B : Nat} {w : World} {v' : Value} {k : Nat} {xs : List Value}, w.ownsRow B e size v' k xs → w.ownsRow 0 e size v' k xs := fun ⟨a1, a2⟩ => ⟨a1, a2.imp id fun ⟨g, cap, cur, h1, _, h3⟩ => ⟨g, cap, cur, h1, Nat.zero_le _, h3⟩⟩
  have kp : ∀ {w' : World}, w.grownBy w' v.ownBlock → Keeps v.ownBlock.toList w w' := fun hg => ⟨hg.os, hg.tape, hg.output, hg.size, fun b hbl hm => hg.block b hbl (fun e => hm (by rw [← e]; simp))⟩
  by_cases hnil : v = .slice none 0 0
  · subst hnil
    have hk : k = 0 := by
      rcases hown.2 with ⟨_, hk⟩ | ⟨_, _, _, hv, _⟩
      · exact hk
      · cases hv
    subst hk
    have hx : xs = [] := List.eq_nil_of_length_eq_zero (by simpa using hown.1)
    subst hx
    obtain ⟨v', w', hr, ho, hg, _⟩ := run_append_own (P := P) w w.heap.size st ty' e i z size bytes hu hi hz hsz hby hzs hpos _ 0 [] (World.ownsRow_nil w w.heap.size e size) a m cc news hl hnews h1 h63 hb (Nat.le_refl _)
    refine ⟨v', w', hr, up ho, kp hg, fun b hv' => .inr ?_⟩
    exact (World.ownsRow.lt ho b hv').1
  · obtain ⟨v', w', hr, ho, hg, _⟩ := run_append_own (P := P) w 0 st ty' e i z size bytes hu hi hz hsz hby hzs hpos v k xs hown a m cc news hl hnews h1 h63 hb (Nat.zero_le _)
    refine ⟨v', w', hr, ho, kp hg, ?_⟩
    rcases hown.2 with ⟨hv, _⟩ | ⟨g, cap, cur, rfl, _, hgc, hkc, hcm, hcs, htake⟩
    · exact absurd hv hnil
    · subst hsz; subst hby
      by_cases hroom : k + m ≤ cap
      · have hfit : k * i.size + news.length ≤ cur.size := by rw [hl, hcs, ← Nat.add_mul]; exact Nat.mul_le_mul_right _ hroom
        have hr2 := run_append_room (P := P) w st ty' e i hu hi g k cap cur hgc a m cc news hl hnews h1 hroom hfit
        rw [hr2] at hr
        injection hr with e1 _
        subst e1
        intro b hb'; left; exact hb'
      · have holds : ∀ j u, xs[j]? = some u → w.cell? ((⟨g, 0, none⟩ : Addr).add j) = some u := World.ownsRow.cells hown rfl
        have h63' : ((k + m : Nat) : Int) ≤ 9223372036854775807 := by simp only [maxLen] at h63; omega
        have hr2 := run_append_grow (P := P) w st ty' e i z hu hi hz ⟨g, 0, none⟩ k cap xs hown.1 holds a m cc news hl hnews (by omega) h63' (growslice_fits (by omega) hb)
        rw [hr2] at hr
        injection hr with e1 _
        subst e1
        intro b hb'; right
        cases hb'; exact Nat.le_refl _

theorem o_append {st e : TypeId} {x y : Operand} {i : TypeInfo} {z : Value} {size bytes : Nat} (hu : P.underlying st = some (.slice e)) (hi : P.info? e = some i) (hz : i.zero = some z)
    (hsz : i.size = size) (hby : i.bytes = bytes) (hzs : z.cells.size = size) (hpos : 0 < size) {v : Value} {k q : Nat} {xs xs' : List Value} (hS : St c w σ ms) (hx : ev n f x = v) (hq : ms[q]? = some (vec v e size k xs))
    {a : Addr} {m cc : Nat} {news : List Value} (hy : ev n f y = .slice (some a) m cc) (hl : news.length = m * size) (hnews : Row w a news) (h1 : ∀ u ∈ news, u.oneCell' = true) (hb : (k + m) * bytes ≤ 140737488355328) (h63 : k + m ≤ maxLen)
    (hxs : xs ++ news = xs') {Ms : Value → List HObj} (hms : ∀ v', ms.set q (vec v' e size (k + m) xs') = Ms v')
    (h : ∀ v' w', v'.oneCell' = true → St c w' σ (Ms v') → wpList P ops Q rest (mk n (upd f d v')) w') :
    wpList P ops Q (⟨some d, .call ⟨.builtin .append, #[x, y], #[st, st]⟩, t, p, af, none⟩ :: rest) (mk n f) w := by
  obtain ⟨v', w', hr, ho, hk, hf⟩ := run_app (P := P) (ty' := t) (cc := cc) hu hi hz hsz hby hzs hpos (hS.get hq) hl hnews h1 hb h63
  subst hxs
  refine o_val rfl rfl ?_ (h v' w' (vec_one ho) (hS.step hq hk ho hf (hms v') hS.view.none_of_ge))
  simp only [execOp, resolve, invoke, builtin, Sem.run_bind, Sem.run_pure, Result.andThen_ok, List.map_toArray, List.map_cons, List.map_nil, hx, hy, hr]
/-- Nothing is appended: the source is nil. -/
theorem o_append_nil {st e : TypeId} {x y : Operand} {i : TypeInfo} {size : Nat} (hu : P.underlying st = some (.slice e)) (hi : P.info? e = some i)
    {v : Value} {k q : Nat} {xs : List Value} (hS : St c w σ ms) (hx : ev n f x = v) (hq : ms[q]? = some (vec v e size k xs)) (hy : ev n f y = .slice none 0 0)
    (h : wpList P ops Q rest (mk n (upd f d v)) w) :
    wpList P ops Q (⟨some d, .call ⟨.builtin .append, #[x, y], #[st, st]⟩, t, p, af, none⟩ :: rest) (mk n f) w := by
  have hr := run_append_owned_none (P := P) w 0 st t e i size hu hi v k xs (hS.get hq)
  refine o_val (v := v) rfl rfl ?_ h
  simp only [execOp, resolve, invoke, builtin, Sem.run_bind, Sem.run_pure, Result.andThen_ok, List.map_toArray, List.map_cons, List.map_nil, hx, hy, hr]

/-! Calls. -/
theorem o_call {g : FuncId} {xs : List Operand} {ts : Array TypeId} {args : List Value} (ha : xs.map (ev n f) = args) (hcall : ∀ args w, (callFunc g args).run P w = .ok (.enter g args) w)
    (hc : Calls P g args.toArray w fun e w1 => ∃ v, e = .returned v ∧ wpList P ops Q rest (mk n (upd f d v)) w1) :
    wpList P ops Q (⟨some d, .call ⟨.value (.func g), xs.toArray, ts⟩, t, p, af, none⟩ :: rest) (mk n f) w := by
  refine o_enter rfl rfl ?_ hc
  have h0 : ev n f (.func g) = .func (.func g) #[] #[] := rfl
  subst ha
  simp [execOp, resolve, h0, Deferred.ofValue, invoke, hcall]
/-- A call of a function value. -/
theorem o_callv {x : Operand} {g : FuncId} {first captured : List Value} {xs : List Operand} {ts : Array TypeId} {args : List Value} (hx : ev n f x = .func (.func g) first.toArray captured.toArray) (ha : (first ++ xs.map (ev n f)) ++ captured = args)
    (hcall : ∀ args w, (callFunc g args).run P w = .ok (.enter g args) w)
    (hc : Calls P g args.toArray w fun e w1 => ∃ v, e = .returned v ∧ wpList P ops Q rest (mk n (upd f d v)) w1) :
    wpList P ops Q (⟨some d, .call ⟨.value x, xs.toArray, ts⟩, t, p, af, none⟩ :: rest) (mk n f) w := by
  refine o_enter rfl rfl ?_ hc
  subst ha
  simp [execOp, resolve, hx, Deferred.ofValue, invoke, hcall]

/-- s[lo:hi] of a slice. -/
theorem o_slice {st e : TypeId} {x : Operand} {lo hi : Option Operand} {a : Option Addr} {len cap l r size : Nat} {v : Value} (hx : ev n f x = .slice a len cap) (hu : P.underlying st = some (.slice e)) (hs : ∀ w, (sizeOf e).run P w = .ok size w)
    (hlo : (lo = none ∧ l = 0) ∨ ∃ o, lo = some o ∧ ev n f o = .int .i64 (l : Int)) (hhi : (hi = none ∧ r = len) ∨ ∃ o, hi = some o ∧ ev n f o = .int .i64 (r : Int)) (h1 : l ≤ r) (h2 : r ≤ cap)
    (hv : .slice (if cap = l then a else a.map (·.add (l * size))) (r - l) (cap - l) = v)
    (h : wpList P ops Q rest (mk n (upd f d v)) w) : wpList P ops Q (⟨some d, .slice st x lo hi none, t, p, af, none⟩ :: rest) (mk n f) w := by
  refine o_val rfl rfl ?_ h
  subst hv
  have e1 : (r : Int) ≤ (cap : Int) := by omega
  have e2 : (l : Int) ≤ (r : Int) := by omega
  rcases hlo with ⟨rfl, rfl⟩ | ⟨o, rfl, ho⟩ <;> rcases hhi with ⟨rfl, rfl⟩ | ⟨o', rfl, ho'⟩ <;>
    simp_all [execOp, Instr.sliceAt, run_underlying hu, Instr.slice, Instr.sliceBounds, Instr.sliceBound, asIntOf]

/-- s[:r] -/
theorem o_prefix {st e : TypeId} {x o : Operand} {a : Option Addr} {len cap r size : Nat} (hx : ev n f x = .slice a len cap) (hu : P.underlying st = some (.slice e)) (hs : ∀ w, (sizeOf e).run P w = .ok size w)
    (ho : ev n f o = .int .i64 (r : Int)) (h2 : r ≤ cap)
    (h : wpList P ops Q rest (mk n (upd f d (.slice a r cap))) w) : wpList P ops Q (⟨some d, .slice st x none (some o) none, t, p, af, none⟩ :: rest) (mk n f) w := by
  refine o_slice hx hu hs (.inl ⟨rfl, rfl⟩) (.inr ⟨o, rfl, ho⟩) (Nat.zero_le _) h2 ?_ h
  have e : (Option.map (fun z : Addr => z.add (0 * size)) a) = a := by
    rw [Nat.zero_mul]
    cases a <;> simp [Addr.add]
  rw [e]
  simp

#print axioms o_store
#print axioms o_append
#print axioms o_slice
end Go.Fl
end
/- How data of a program read in a view of the heap; small rules of control. Conditions: none. -/
section
namespace Go.Fl
open Go Go.RowKit

variable {P : Program} {Q : Exit → Act → World → Prop} {n : Nat} {f : Fr} {w : World} {σ τ : Hv}

theorem then_n {K : Act → World → Prop} {a : Act} (h : K a w) : Exit.then K Q .normal a w := h
theorem then_e {K : Act → World → Prop} {a : Act} {i : Nat} (h : Q (.exit i) a w) : Exit.then K Q (.exit i) a w := h
theorem then_r {K : Act → World → Prop} {a : Act} (h : Q .ret a w) : Exit.then K Q .ret a w := h
theorem blk_n {a : Act} {i : Nat} (h : Q .normal a w) : Exit.inBlock i Q .normal a w := h
theorem blk_r {a : Act} {i : Nat} (h : Q .ret a w) : Exit.inBlock i Q .ret a w := h
theorem blk_hit {a : Act} {i : Nat} (h : Q .normal a w) : Exit.inBlock i Q (.exit i) a w := by simp only [Exit.inBlock, if_true]; exact h
theorem blk_miss {a : Act} {i j : Nat} (hne : Nat.beq j i = false) (h : Q (.exit j) a w) : Exit.inBlock i Q (.exit j) a w := by
  have : j ≠ i := fun e => by subst e; simp at hne
  simp only [Exit.inBlock, if_neg this]; exact h
theorem if_nd {c : Operand} {x y : Code} (p : Prop) [Decidable p] (hc : ev n f c = .bool (!decide p)) (ht : ¬ p → x.wp P Q (mk n f) w) (hf : p → y.wp P Q (mk n f) w) :
    (Code.cond c x y).wp P Q (mk n f) w := by
  by_cases h : p
  · exact if_f (by rw [hc, decide_eq_true h]; rfl) (hf h)
  · exact if_t (by rw [hc, decide_eq_false h]; rfl) (ht h)
theorem if_nb {c : Operand} {x y : Code} {b : Bool} (hc : ev n f c = .bool (!b)) (ht : b = false → x.wp P Q (mk n f) w) (hf : b = true → y.wp P Q (mk n f) w) :
    (Code.cond c x y).wp P Q (mk n f) w := by
  cases b
  · exact if_t hc (ht rfl)
  · exact if_f hc (hf rfl)

theorem View.sub {h : Sub σ τ} (v : View τ w) : View σ w := fun b o hb => v b o (h b o hb)
theorem View.of (h : Sub σ τ) (v : View τ w) : View σ w := fun b o hb => v b o (h b o hb)

/-- A slice whose elements take 'size' cells each and read as R says. -/
def RSl {α : Type} (size : Nat) (R : Hv → List Value → α → Prop) (σ : Hv) (v : Value) (l : List α) : Prop :=
  ∃ a cap, v = .slice a l.length cap ∧ l.length ≤ cap ∧ l.length ≤ 140737488355328 ∧
    ∀ (i : Nat) x, l[i]? = some x → ∃ ad cs, a = some ad ∧ cs.length = size ∧ VRow σ (ad.add (i * size)) cs ∧ R σ cs x

theorem RSl.mono {α : Type} {size : Nat} {R : Hv → List Value → α → Prop} (hR : ∀ {σ τ : Hv} {cs x}, Sub σ τ → R σ cs x → R τ cs x) {v : Value} {l : List α} (hs : Sub σ τ) (h : RSl size R σ v l) : RSl size R τ v l := by
  obtain ⟨a, cap, h1, h2, h3, h4⟩ := h
  refine ⟨a, cap, h1, h2, h3, fun i x hx => ?_⟩
  obtain ⟨ad, cs, e1, e2, e3, e4⟩ := h4 i x hx
  exact ⟨ad, cs, e1, e2, e3.mono hs, hR hs e4⟩

theorem RSl.nil {α : Type} {size : Nat} {R : Hv → List Value → α → Prop} : RSl size R σ (.slice none 0 0) [] :=
  ⟨none, 0, rfl, Nat.le_refl _, by simp, fun i x hx => by simp at hx⟩

/-- What an owned slice holds, once it has joined the view. -/
theorem RSl.ofVec {α : Type} {size T : Nat} {R : Hv → List Value → α → Prop} {v : Value} {k : Nat} {xs : List Value} {l : List α} (h : (vec v T size k xs).ok w)
    (hs : ∀ b, v.ownBlock = some b → σ b = w.heap[b]?) (hk : l.length = k) (hcap : k ≤ 140737488355328)
    (hR : ∀ (i : Nat) x, l[i]? = some x → ((xs.drop (i * size)).take size).length = size ∧ R σ ((xs.drop (i * size)).take size) x) : RSl size R σ v l := by
  subst hk
  rcases (vec_shape h).2 with ⟨rfl, h0⟩ | ⟨g, cap, rfl, h1, h2⟩
  · have : l = [] := List.eq_nil_of_length_eq_zero h0
    subst this
    exact RSl.nil
  · refine ⟨_, cap, rfl, h1, hcap, fun i x hx => ⟨_, _, rfl, (hR i x hx).1, ?_, (hR i x hx).2⟩⟩
    have hrow : VRow σ ⟨g, 0, none⟩ xs := by
      intro j u hj
      have hc := vec_row h j u hj
      rw [addr_lit] at hc ⊢
      unfold Hv.cell
      rw [hs g rfl]
      exact hc
    exact hrow.part rfl

theorem take_snoc {α : Type} {l : List α} {k : Nat} {x : α} (h : l[k]? = some x) : l.take (k + 1) = l.take k ++ [x] := by
  rw [List.take_add_one, h]; rfl
theorem getq {α : Type} {l : List α} {k : Nat} (h : k < l.length) : ∃ x, l[k]? = some x := ⟨_, List.getElem?_eq_getElem h⟩
theorem lt_of_getq {α : Type} {l : List α} {k : Nat} {x : α} (h : l[k]? = some x) : k < l.length := (List.getElem?_eq_some_iff.1 h).1

theorem tmod_nat (x : Nat) {m : Int} (h : 1 ≤ m) : ∃ r : Nat, ((x : Nat) : Int).tmod m = ((r : Nat) : Int) ∧ ((r : Nat) : Int) < m := by
  have h1 := Int.tmod_nonneg m (show (0 : Int) ≤ (x : Int) from by omega)
  have h2 := Int.tmod_lt_of_pos (x : Int) (show 0 < m from by omega)
  exact ⟨(((x : Nat) : Int).tmod m).toNat, by omega, by omega⟩

/-- A byte. -/
def RU8 (_ : Hv) (cs : List Value) (x : UInt8) : Prop := cs = [.int .u8 ((x.toNat : Nat) : Int)]
/-- A list of choices, k of them taken. -/
def cod (T : TypeId) (σ : Hv) (b len k : Nat) : HObj where
  foot := some b
  ok w := ∃ v l, l.length = len ∧ RSl 1 RU8 σ v l ∧ k ≤ len ∧ w.heap[b]? = some (.cells #[v, .int .i64 ((k : Nat) : Int)] T (0, 0))
  stay w w' h hk := by
    obtain ⟨v, l, h1, h2, h3, h4⟩ := hk
    exact ⟨v, l, h1, h2, h3, (h b rfl).trans h4⟩
  lt w k hk hf := by
    obtain ⟨v, l, h1, h2, h3, h4⟩ := hk
    cases hf; exact lt_of_block h4

/-- Elements without memory of their own: their cells are a function of them. -/
def REnc {α : Type} (enc : α → List Value) : Hv → List Value → α → Prop := fun _ cs x => cs = enc x
theorem REnc.mono {α : Type} {enc : α → List Value} {σ τ : Hv} {cs : List Value} {x : α} (_ : Sub σ τ) (h : REnc enc σ cs x) : REnc enc τ cs x := h
theorem RSl.shape {α : Type} {size : Nat} {R : Hv → List Value → α → Prop} {v : Value} {l : List α} (h : RSl size R σ v l) : ∃ a cap, v = .slice a l.length cap := by
  obtain ⟨a, cap, h1, _⟩ := h; exact ⟨a, cap, h1⟩
theorem RSl.menc {α : Type} {size : Nat} {enc : α → List Value} {σ τ : Hv} {v : Value} {l : List α} (hs : Sub σ τ) (h : RSl size (REnc enc) σ v l) : RSl size (REnc enc) τ v l := h.mono (fun _ h => h) hs
theorem flat_at {α : Type} {enc : α → List Value} {size : Nat} (he : ∀ x, (enc x).length = size) : ∀ {l : List α} {i : Nat} {x : α}, l[i]? = some x → ((l.flatMap enc).drop (i * size)).take size = enc x
  | [], _, _, h => by simp at h
  | a :: l, 0, x, h => by
    simp at h; subst h
    simp only [Nat.zero_mul, List.drop_zero, List.flatMap_cons]
    rw [List.take_append_of_le_length (by rw [he]; exact Nat.le_refl _), List.take_of_length_le (by rw [he]; exact Nat.le_refl _)]
  | a :: l, i + 1, x, h => by
    simp only [List.getElem?_cons_succ] at h
    simp only [List.flatMap_cons]
    rw [Nat.add_mul, Nat.one_mul, Nat.add_comm, ← List.drop_drop, List.drop_left' (he a)]
    exact flat_at he h
theorem flat_len {α : Type} {enc : α → List Value} {size : Nat} (he : ∀ x, (enc x).length = size) (l : List α) : (l.flatMap enc).length = l.length * size := by
  induction l with
  | nil => simp
  | cons a l ih => simp only [List.flatMap_cons, List.length_append, he, ih, List.length_cons, Nat.add_mul, Nat.one_mul]; omega
theorem flat_snoc {α : Type} {enc : α → List Value} (l : List α) (x : α) : l.flatMap enc ++ enc x = (l ++ [x]).flatMap enc := by simp
theorem RSl.ofVecEnc {α : Type} {size T : Nat} {enc : α → List Value} (he : ∀ x, (enc x).length = size) {v : Value} {k : Nat} {l : List α} (h : (vec v T size k (l.flatMap enc)).ok w)
    (hs : ∀ b, v.ownBlock = some b → σ b = w.heap[b]?) (hk : l.length = k) (hcap : k ≤ 140737488355328) : RSl size (REnc enc) σ v l :=
  RSl.ofVec h hs hk hcap fun i x hx => by rw [flat_at he hx]; exact ⟨he x, rfl⟩
/-- The first part of a slice reads as the first part. -/
theorem RSl.take {α : Type} {size : Nat} {R : Hv → List Value → α → Prop} {a : Option Addr} {len cap : Nat} {l : List α} (h : RSl size R σ (.slice a len cap) l) (k : Nat) (hk : k ≤ l.length) : RSl size R σ (.slice a k cap) (l.take k) := by
  obtain ⟨a', cap', h1, h2, h3, h4⟩ := h
  cases h1
  have hl : (l.take k).length = k := by simp; omega
  refine ⟨a, cap, by rw [hl], by omega, by omega, fun i x hx => ?_⟩
  refine h4 i x ?_
  rw [List.getElem?_take] at hx
  split at hx
  · exact hx
  · cases hx
/-- A great zero value is a row of one value, by a check that the kernel runs in little room. -/
def isRep (z : Value → Bool) : Nat → List Value → Bool
  | 0, [] => true
  | n + 1, v :: l => z v && isRep z n l
  | _, _ => false
theorem isRep_eq {z : Value → Bool} {v0 : Value} (hz : ∀ v, z v = true → v = v0) : ∀ {n : Nat} {l : List Value}, isRep z n l = true → l = List.replicate n v0
  | 0, [], _ => rfl
  | n + 1, v :: l, h => by
    simp only [isRep, Bool.and_eq_true] at h
    rw [hz v h.1, isRep_eq hz h.2]; rfl
  | 0, _ :: _, h => by simp [isRep] at h
  | _ + 1, [], h => by simp [isRep] at h
def zB : Value → Bool | .bool false => true | _ => false
theorem zB_eq (v : Value) (h : zB v = true) : v = .bool false := by
  cases v <;> simp [zB] at h
  rename_i b; cases b
  · rfl
  · simp at h
def zI : Value → Bool | .int .i64 (.ofNat 0) => true | _ => false
theorem zI_eq (v : Value) (h : zI v = true) : v = .int .i64 0 := by
  unfold zI at h
  split at h
  · rfl
  · cases h
def zcells : Option Value → List Value
  | some (.agg cs) => cs.toList
  | _ => []
theorem zero_rep {P : Program} {t : TypeId} {i : TypeInfo} {v0 : Value} {n : Nat} (hi : P.info? t = some i) (hl : zcells i.zero = List.replicate n v0) (hn : 0 < n) :
    ∀ w, (zeroValue t).run P w = .ok (.agg (List.replicate n v0).toArray) w := by
  intro w
  cases hz : i.zero with
  | none => rw [hz] at hl; have := congrArg List.length hl; simp [zcells] at this; omega
  | some v =>
    rw [hz] at hl
    cases v with
    | agg cs =>
      have : cs = (List.replicate n v0).toArray := by rw [← hl]; simp [zcells]
      subst this
      simp [zeroValue, typeInfo, hi, hz]
    | _ => have := congrArg List.length hl; simp [zcells] at this; omega
/-- Rows of truth values and of integers, given place by place. -/
def brow (N : Nat) (p : Nat → Bool) : List Value := (List.range N).map fun i => .bool (p i)
def irow (N : Nat) (p : Nat → Int) : List Value := (List.range N).map fun i => .int .i64 (p i)
theorem brow_len (N : Nat) (p : Nat → Bool) : (brow N p).length = N := by simp [brow]
theorem irow_len (N : Nat) (p : Nat → Int) : (irow N p).length = N := by simp [irow]
theorem brow_at {N j : Nat} {p : Nat → Bool} (h : j < N) : (brow N p)[j]? = some (.bool (p j)) := by simp [brow, h]
theorem irow_at {N j : Nat} {p : Nat → Int} (h : j < N) : (irow N p)[j]? = some (.int .i64 (p j)) := by simp [irow, h]
theorem brow_set {N j : Nat} {p : Nat → Bool} {b : Bool} (h : j < N) : splice (brow N p) j [.bool b] = brow N (fun i => if i = j then b else p i) := by
  rw [splice_one _ _ _ (by rw [brow_len]; exact h)]
  apply List.ext_getElem?
  intro i
  rw [List.getElem?_set, brow_len]
  by_cases hi : i < N
  · by_cases hj : j = i
    · subst hj; rw [if_pos rfl, if_pos h, brow_at h, if_pos rfl]
    · rw [if_neg hj, brow_at hi, brow_at hi, if_neg (fun e => hj e.symm)]
  · have e1 : (brow N p)[i]? = none := List.getElem?_eq_none (by rw [brow_len]; omega)
    have e2 : (brow N (fun i => if i = j then b else p i))[i]? = none := List.getElem?_eq_none (by rw [brow_len]; omega)
    rw [if_neg (by omega), e1, e2]
theorem irow_set {N j : Nat} {p : Nat → Int} {b : Int} (h : j < N) : splice (irow N p) j [.int .i64 b] = irow N (fun i => if i = j then b else p i) := by
  rw [splice_one _ _ _ (by rw [irow_len]; exact h)]
  apply List.ext_getElem?
  intro i
  rw [List.getElem?_set, irow_len]
  by_cases hi : i < N
  · by_cases hj : j = i
    · subst hj; rw [if_pos rfl, if_pos h, irow_at h, if_pos rfl]
    · rw [if_neg hj, irow_at hi, irow_at hi, if_neg (fun e => hj e.symm)]
  · have e1 : (irow N p)[i]? = none := List.getElem?_eq_none (by rw [irow_len]; omega)
    have e2 : (irow N (fun i => if i = j then b else p i))[i]? = none := List.getElem?_eq_none (by rw [irow_len]; omega)
    rw [if_neg (by omega), e1, e2]
theorem brow_congr {N : Nat} {p q : Nat → Bool} (h : ∀ i, i < N → p i = q i) : brow N p = brow N q := by
  simp only [brow]; exact List.map_congr_left fun i hi => by rw [h i (List.mem_range.1 hi)]
theorem irow_congr {N : Nat} {p q : Nat → Int} (h : ∀ i, i < N → p i = q i) : irow N p = irow N q := by
  simp only [irow]; exact List.map_congr_left fun i hi => by rw [h i (List.mem_range.1 hi)]
theorem brow_zero (N : Nat) : List.replicate N (Value.bool false) = brow N (fun _ => false) := by
  apply List.ext_getElem <;> simp [brow]
theorem irow_zero (N : Nat) : List.replicate N (Value.int .i64 0) = irow N (fun _ => 0) := by
  apply List.ext_getElem <;> simp [irow]

theorem splice_all {cs vs : List Value} (h : vs.length = cs.length) : splice cs 0 vs = vs := by
  simp [splice, h]
theorem brow_ones (N : Nat) (p : Nat → Bool) : ∀ u ∈ brow N p, u.oneCell' = true := by
  intro u hu
  obtain ⟨_, _, rfl⟩ := List.mem_map.1 hu
  rfl
theorem irow_ones (N : Nat) (p : Nat → Int) : ∀ u ∈ irow N p, u.oneCell' = true := by
  intro u hu
  obtain ⟨_, _, rfl⟩ := List.mem_map.1 hu
  rfl
/-- A block that has joined the view. -/
theorem vrow_blk {b T : Nat} {cs : List Value} (h : (blk b T cs).ok w) (hs : ∀ k, (blk b T cs).foot = some k → σ k = w.heap[k]?) : VRow σ ⟨b, 0, none⟩ cs := by
  intro j v hj
  have hb : σ b = some (.cells cs.toArray T (0, 0)) := (hs b rfl).trans h
  rw [addr_lit, Nat.zero_add]
  unfold Hv.cell
  rw [hb]
  simpa using hj
theorem RSl.ofBlk {α : Type} {enc : α → List Value} {size b n : Nat} {cs : List Value} {l : List α} (he : ∀ x, (enc x).length = size) (h : VRow σ ⟨b, 0, none⟩ cs) (hcs : cs = l.flatMap enc) (hn : l.length = n) (hcap : n ≤ 140737488355328) :
    RSl size (REnc enc) σ (.slice (some ⟨b, 0, none⟩) n n) l := by
  subst hn hcs
  exact ⟨_, l.length, rfl, Nat.le_refl _, hcap, fun i x hx => ⟨_, enc x, rfl, he x, h.part (o := i * size) (k := size) (flat_at he hx), rfl⟩⟩
/-- Pairs, each in two cells. -/
def RPair {α : Type} (R : Hv → Value → α → Prop) : Hv → List Value → α × α → Prop := fun σ cs x => ∃ v w, cs = [v, w] ∧ R σ v x.1 ∧ R σ w x.2
theorem rsl3 {α : Type} {size : Nat} {R : Hv → List Value → α → Prop} {b : Nat} {cs ds es : List Value} {x y z : α} (h : VRow σ ⟨b, 0, none⟩ (cs ++ ds ++ es)) (hl : cs.length = size) (hl2 : ds.length = size) (hl3 : es.length = size) (hR : R σ cs x) (hR2 : R σ ds y) (hR3 : R σ es z) :
    RSl size R σ (.slice (some ⟨b, 0, none⟩) 3 3) [x, y, z] := by
  refine ⟨_, 3, rfl, Nat.le_refl _, by simp, fun i u hu => ?_⟩
  match i, hu with
  | 0, hu =>
    simp at hu; subst hu
    exact ⟨_, cs, rfl, hl, h.part (o := 0 * size) (k := size) (by rw [Nat.zero_mul, List.drop_zero, List.append_assoc, List.take_left' hl]), hR⟩
  | 1, hu =>
    simp at hu; subst hu
    exact ⟨_, ds, rfl, hl2, h.part (o := 1 * size) (k := size) (by rw [Nat.one_mul, List.append_assoc, List.drop_left' hl, List.take_left' hl2]), hR2⟩
  | 2, hu =>
    simp at hu; subst hu
    exact ⟨_, es, rfl, hl3, h.part (o := 2 * size) (k := size) (by rw [List.drop_left' (by simp; omega), List.take_of_length_le (by omega)]), hR3⟩
theorem rsl1 {α : Type} {size : Nat} {R : Hv → List Value → α → Prop} {b : Nat} {cs : List Value} {x : α} (h : VRow σ ⟨b, 0, none⟩ cs) (hl : cs.length = size) (hR : R σ cs x) : RSl size R σ (.slice (some ⟨b, 0, none⟩) 1 1) [x] := by
  refine ⟨_, 1, rfl, Nat.le_refl _, by simp, fun i y hy => ?_⟩
  match i, hy with
  | 0, hy =>
    simp at hy; subst hy
    exact ⟨_, cs, rfl, hl, by rw [Nat.zero_mul]; exact h, hR⟩
theorem rsl2 {α : Type} {size : Nat} {R : Hv → List Value → α → Prop} {b : Nat} {cs ds : List Value} {x y : α} (h : VRow σ ⟨b, 0, none⟩ (cs ++ ds)) (hl : cs.length = size) (hl2 : ds.length = size) (hR : R σ cs x) (hR2 : R σ ds y) : RSl size R σ (.slice (some ⟨b, 0, none⟩) 2 2) [x, y] := by
  refine ⟨_, 2, rfl, Nat.le_refl _, by simp, fun i z hz => ?_⟩
  match i, hz with
  | 0, hz =>
    simp at hz; subst hz
    exact ⟨_, cs, rfl, hl, h.part (o := 0 * size) (k := size) (by rw [Nat.zero_mul, List.drop_zero, List.take_left' hl]), hR⟩
  | 1, hz =>
    simp at hz; subst hz
    exact ⟨_, ds, rfl, hl2, h.part (o := 1 * size) (k := size) (by rw [Nat.one_mul, List.drop_left' hl, List.take_of_length_le (by omega)]), hR2⟩
/-- An element that is itself a slice. -/
def RSs {α : Type} (size : Nat) (R : Hv → List Value → α → Prop) : Hv → List Value → List α → Prop := fun σ cs l => ∃ v, cs = [v] ∧ RSl size R σ v l

theorem flat_cell {α : Type} {enc : α → List Value} {size : Nat} (he : ∀ x, (enc x).length = size) {l : List α} {i j : Nat} {x : α} {v : Value} (h : l[i]? = some x) (hv : (enc x)[j]? = some v) : (l.flatMap enc)[i * size + j]? = some v := by
  have h1 := flat_at he h
  have hj : j < size := by rw [← he x]; exact (List.getElem?_eq_some_iff.1 hv).1
  rw [← h1, List.getElem?_take, if_pos hj, List.getElem?_drop] at hv
  exact hv
theorem flat_set {α : Type} {enc : α → List Value} {size : Nat} (he : ∀ x, (enc x).length = size) : ∀ {l : List α} {i j : Nat} {x y : α} {vs : List Value}, l[i]? = some x → splice (enc x) j vs = enc y → j + vs.length ≤ size →
    splice (l.flatMap enc) (i * size + j) vs = (l.set i y).flatMap enc
  | [], _, _, _, _, _, h, _, _ => by simp at h
  | a :: l, 0, j, x, y, vs, h, hs, hj => by
    simp at h; subst h
    simp only [Nat.zero_mul, Nat.zero_add, List.set_cons_zero, List.flatMap_cons, ← hs, splice]
    rw [List.take_append_of_le_length (by rw [he]; omega), List.drop_append_of_le_length (by rw [he]; omega)]
    simp [List.append_assoc]
  | a :: l, i + 1, j, x, y, vs, h, hs, hj => by
    simp only [List.getElem?_cons_succ] at h
    have ih := flat_set he h hs hj
    simp only [List.set_cons_succ, List.flatMap_cons, ← ih, splice]
    have e : (i + 1) * size + j = (enc a).length + (i * size + j) := by rw [he, Nat.add_mul, Nat.one_mul]; omega
    rw [e, List.take_append, List.take_of_length_le (by omega), Nat.add_assoc, List.drop_append, List.drop_of_length_le (by omega)]
    simp [List.append_assoc, Nat.add_sub_cancel_left]
/-- The start of a function that is handed an object whose block, if any, it may write. -/
theorem St.startO {w : World} {σ : Hv} (h : View σ w) {o : HObj} (ho : o.ok w) (hσ : ∀ k, o.foot = some k → σ k = none) : St ⟨w, σ, o.foot.toList⟩ w σ [o] :=
  ⟨.refl _ _, h, .refl _, fun _ _ _ => rfl, by simpa using ho, by simp, by simpa using hσ, by intro o' h' k hk; rw [List.mem_singleton.1 h'] at hk; left; rw [hk]; simp⟩
theorem St.growO {c : Cx} {w w1 : World} {σ : Hv} {ms ms' : List HObj} (h : St c w σ ms) {bo : Option Nat} (g : Grow bo.toList σ w σ w1) {i : Nat} {o o' : HObj} (hi : ms[i]? = some o)
    (hf : o.foot = bo) (hf' : o'.foot = bo) (ho : o'.ok w1) (hms : ms.set i o' = ms') : St c w1 σ ms' :=
  h.step hi (by rw [hf]; exact g.keeps) ho (fun k hk => .inl (by rw [hf, ← hf']; exact hk)) hms h.view.none_of_ge
theorem addr0 (b k : Nat) : (⟨b, 0, none⟩ : Addr).add k = ⟨b, k, none⟩ := by rw [addr_lit, Nat.zero_add]
/-- A cell, and a whole element, of an owned slice that holds encoded elements. -/
theorem vec_cell {α : Type} {enc : α → List Value} {size g cap T k : Nat} (he : ∀ x, (enc x).length = size) {l : List α} {i j : Nat} {x : α} {v : Value} (h : (vec (.slice (some ⟨g, 0, none⟩) k cap) T size k (l.flatMap enc)).ok w) (hx : l[i]? = some x) (hv : (enc x)[j]? = some v) : w.cell? ⟨g, i * size + j, none⟩ = some v :=
  (vec_row h).cell _ (flat_cell he hx hv) (addr0 _ _)
theorem vec_part {α : Type} {enc : α → List Value} {size g cap T k : Nat} (he : ∀ x, (enc x).length = size) {l : List α} {i : Nat} {x : α} (h : (vec (.slice (some ⟨g, 0, none⟩) k cap) T size k (l.flatMap enc)).ok w) (hx : l[i]? = some x) : Row w ⟨g, i * size, none⟩ (enc x) := by
  have := (vec_row h).part (o := i * size) (k := size) (flat_at he hx)
  rwa [addr0] at this
theorem RSl.len {α : Type} {size : Nat} {R : Hv → List Value → α → Prop} {v : Value} {l : List α} (h : RSl size R σ v l) : l.length ≤ 140737488355328 := by
  obtain ⟨_, _, _, _, h3, _⟩ := h; exact h3
/-- A row of truth values that is read through a slice. -/
def RBr (N : Nat) (σ : Hv) (v : Value) (p : Nat → Bool) : Prop := ∃ g cap, v = .slice (some ⟨g, 0, none⟩) N cap ∧ VRow σ ⟨g, 0, none⟩ (brow N p)
theorem RBr.ofVec {v : Value} {T N : Nat} {p : Nat → Bool} (h : (vec v T 1 N (brow N p)).ok w) (hN : 0 < N) (hs : ∀ b, v.ownBlock = some b → σ b = w.heap[b]?) : RBr N σ v p := by
  obtain ⟨g, cap, rfl⟩ := vec_pos h hN
  refine ⟨g, cap, rfl, ?_⟩
  intro j u hj
  have hc := vec_row h j u hj
  rw [addr_lit] at hc ⊢
  unfold Hv.cell
  rw [hs g rfl]
  exact hc
theorem fresh_foot {c : Cx} {ms : List HObj} (h : St c w σ ms) (hM : c.M = []) {i : Nat} {o : HObj} (hi : ms[i]? = some o) : ∀ k, o.foot = some k → c.w.heap.size ≤ k ∧ σ k = none :=
  fun k hk => ⟨(h.new o (List.mem_of_getElem? hi) k hk).resolve_left (by rw [hM]; simp), h.off o (List.mem_of_getElem? hi) k hk⟩

/-- An object without memory. -/
def noObj : HObj := ⟨none, fun _ => True, fun _ _ _ h => h, fun _ _ _ h => by cases h⟩

/-- A span of buckets. -/
def encSp (s : Int × Int) : List Value := [.int .i64 s.1, .int .i64 s.2]
theorem encSp_len (s : Int × Int) : (encSp s).length = 2 := rfl
theorem tmod_any (x : Int) {m : Int} (h : 1 ≤ m) : ∃ r : Int, x.tmod m = r ∧ -m < r ∧ r < m := by
  refine ⟨_, rfl, ?_, Int.tmod_lt_of_pos x (by omega)⟩
  rcases Int.le_total 0 x with hx | hx
  · have := Int.tmod_nonneg m hx; omega
  · have h1 := Int.tmod_lt_of_pos (-x) (show 0 < m by omega)
    rw [Int.neg_tmod] at h1; omega

theorem RU8.mono {σ τ : Hv} {cs : List Value} {x : UInt8} (_ : Sub σ τ) (h : RU8 σ cs x) : RU8 τ cs x := h

/-- Behind a call that hands back a new object. -/
theorem St.growAdd {c : Cx} {w w1 : World} {σ σ1 : Hv} {ms : List HObj} (h : St c w σ ms) (g : Grow [] σ w σ1 w1) {o : HObj} (ho : o.ok w1 ∧ ∀ k, o.foot = some k → w.heap.size ≤ k ∧ σ1 k = none) : St c w1 σ1 (o :: ms) := by
  have h1 := h.grow g
  refine ⟨h1.keeps, h1.view, h1.sub, h1.fresh, ?_, ?_, ?_, ?_⟩
  · intro p hp
    rcases List.mem_cons.1 hp with rfl | hp
    · exact ho.1
    · exact h1.own p hp
  · refine List.pairwise_cons.2 ⟨fun p hp k hok hpk => ?_, h1.sep⟩
    have := p.lt w k (h.own p hp) hpk
    have := (ho.2 k hok).1
    omega
  · intro p hp k hpk
    rcases List.mem_cons.1 hp with rfl | hp
    · exact (ho.2 k hpk).2
    · exact h1.off p hp k hpk
  · intro p hp k hpk
    rcases List.mem_cons.1 hp with rfl | hp
    · exact .inr (Nat.le_trans h.keeps.size (ho.2 k hpk).1)
    · exact h1.new p hp k hpk
/-- A call's own object, handed back. -/
theorem St.own1 {w0 w : World} {σ0 σ : Hv} {ms : List HObj} {o : HObj} (h : St ⟨w0, σ0, []⟩ w σ ms) {i : Nat} (hi : ms[i]? = some o) : o.ok w ∧ ∀ k, o.foot = some k → w0.heap.size ≤ k ∧ σ k = none :=
  ⟨h.get hi, fun k hk => ⟨(h.new o (List.mem_of_getElem? hi) k hk).resolve_left (by simp), h.off o (List.mem_of_getElem? hi) k hk⟩⟩

#print axioms RSl.ofVec
end Go.Fl
end
/- A region that draws its order: what leaves the world alone may be taken first. Conditions: none; every rule speaks of any program. -/
section
namespace Go.Fl
open Go Go.RowKit

variable {P : Program} {ops : Array Oper} {md : Region.Mode} {Q : Exit → Act → World → Prop} {n : Nat} {f : Fr} {w : World}

/-- The normal way out alone. -/
def nrm (K : Act → World → Prop) : Exit → Act → World → Prop := fun e a w => e = .normal ∧ K a w

/-- Whatever order comes, each step keeps J. -/
def wpJ (P : Program) (md : Region.Mode) (ops : Array Oper) (Q : Exit → Act → World → Prop) (J : World → Prop) : Nat → Array Bool → Act → World → Prop
  | 0, listed, a, w => Region.ready md ops listed = [] ∧ Q .normal a w
  | fuel + 1, listed, a, w =>
    (Region.ready md ops listed = [] → Q .normal a w) ∧
    ∀ i ∈ Region.ready md ops listed, wpOp P ops Q i (fun a w => J w ∧ wpJ P md ops Q J fuel (listed.setIfInBounds i true) a w) a w

theorem wpJ_any {J : World → Prop} : ∀ (fuel : Nat) (listed : Array Bool) (a : Act) (w : World), wpJ P md ops Q J fuel listed a w → wpAny P md ops Q fuel listed a w
  | 0, _, _, _, h => h
  | fuel + 1, _, _, _, h => ⟨h.1, fun i hi => wpOp_mono (fun a w hk => wpJ_any fuel _ a w hk.2) (h.2 i hi)⟩
theorem wpJ_weak {J J' : World → Prop} (hj : ∀ w, J' w → J w) : ∀ (fuel : Nat) (listed : Array Bool) (a : Act) (w : World), wpJ P md ops Q J' fuel listed a w → wpJ P md ops Q J fuel listed a w
  | 0, _, _, _, h => h
  | fuel + 1, _, _, _, h => ⟨h.1, fun i hi => wpOp_mono (fun a w hk => ⟨hj w hk.1, wpJ_weak hj fuel _ a w hk.2⟩) (h.2 i hi)⟩

/-- In state a, in every world of J, operation i leaves the world alone and comes to state a.put dst v. -/
def Still (P : Program) (ops : Array Oper) (J : World → Prop) (i : Nat) (oi : Oper) (v : Value) (a : Act) : Prop :=
  ∀ w, J w → ∀ K : Act → World → Prop, K (a.put oi.dst v) w → wpOp P ops (nrm K) i K a w

theorem upon_put {o : Oper} {a : Act} {dj : Option Tmp} {u : Value} (hne : ∀ d, o.dst = some d → dj ≠ some d) {K K' : Act → World → Prop} {r : Result Next}
    (h : o.upon P a (fun a' w' => K (a'.put dj u) w') (nrm K') r) {Q' : Exit → Act → World → Prop} : o.upon P (a.put dj u) K Q' r := by
  cases r with
  | ok x w' =>
    cases x <;> simp only [Oper.upon] at h ⊢
    case value v => rw [← Act.put_comm a v u hne]; exact h
    case skip => rw [← Act.put_comm a undef u hne]; exact h
    case defer d =>
      rw [Act.put_comm ({ a with defers := d :: a.defers } : Act) undef u hne] at h
      have e2 : ({ a with defers := d :: a.defers } : Act).put dj u = { a.put dj u with defers := d :: (a.put dj u).defers } := by cases dj <;> rfl
      rw [e2] at h
      exact h
    case enter g args =>
      refine Calls.mono h fun e w'' he => ?_
      cases e with
      | returned v => simp only at he ⊢; rw [← Act.put_comm a v u hne]; exact he
      | panicked c => exact absurd he.1 (by simp)
      | outgrown => obtain ⟨_, _, hb, _⟩ := he; exact absurd hb (by simp)
    case row row args => exact Rows.mono h fun v w'' he => by rw [← Act.put_comm a v u hne]; exact he
  | halt x w' =>
    cases x <;> simp only [Oper.upon] at h ⊢
    case panic v => exact absurd h.1 (by simp)

theorem upon_q {o : Oper} {a : Act} {K K' : Act → World → Prop} {r : Result Next} (h : o.upon P a K (nrm K') r) {Q' : Exit → Act → World → Prop} : o.upon P a K Q' r := by
  cases r with
  | ok x w' =>
    cases x <;> simp only [Oper.upon] at h ⊢ <;> try exact h
    case enter g args =>
      refine Calls.mono h fun e w'' he => ?_
      cases e with
      | returned v => exact he
      | panicked c => exact absurd he.1 (by simp)
      | outgrown => obtain ⟨_, _, hb, _⟩ := he; exact absurd hb (by simp)
  | halt x w' =>
    cases x <;> simp only [Oper.upon] at h ⊢
    case panic v => exact absurd h.1 (by simp)

theorem no_lets (K : Act → World → Prop) : ¬ LetsOut (nrm K) := by rintro ⟨_, _, h, _⟩; cases h

theorem wpOp_q {i : Nat} {a : Act} {K K' : Act → World → Prop} (h : wpOp P ops (nrm K') i K a w) : wpOp P ops Q i K a w := by
  unfold wpOp at *
  split
  · rename_i ho; simp only [ho] at h; exact h
  · rename_i o ho
    simp only [ho] at h
    split
    · rename_i hw; simp only [hw, if_true] at h
      rcases h with h | ⟨_, hl⟩
      · exact .inl (upon_q h)
      · exact absurd hl (no_lets _)
    · rename_i hw; simp only [hw] at h; exact h

theorem Still.put {J : World → Prop} {i : Nat} {oi oj : Oper} {v : Value} {a : Act} (hi : ops[i]? = some oi) (hap : oi.apart ops oj = true) (hsi : ∀ cs b, oi.op ≠ .select cs b)
    (hy : Still P ops J i oi v a) (u : Value) : Still P ops J i oi v (a.put oj.dst u) := by
  obtain ⟨h1, h2, h3⟩ := Oper.apart_spec hap
  intro w hJ K hK
  have h := hy w hJ (fun a' w' => K (a'.put oj.dst u) w') (by rw [Act.put_comm a v u h2]; exact hK)
  unfold wpOp at *
  simp only [hi] at *
  rw [wanted_put oi a oj.dst u h3]
  split
  · rename_i hw
    simp only [hw, if_true] at h
    rcases h with h | ⟨_, hl⟩
    · left
      unfold Oper.wp at *
      rw [execOp_put oi hsi a oj.dst u h3]
      exact upon_put h2 h
    · exact absurd hl (no_lets _)
  · rename_i hw
    simp only [hw] at h
    rw [← Act.put_comm a undef u h2]
    exact h
theorem Still.defers {J : World → Prop} {i : Nat} {oi : Oper} {v : Value} {a : Act} (hi : ops[i]? = some oi) (hy : Still P ops J i oi v a) (d : Deferred) : Still P ops J i oi v { a with defers := d :: a.defers } := by
  intro w hJ K hK
  have e : ∀ (x : Option Tmp) (u : Value), ({ a with defers := d :: a.defers } : Act).put x u = { a.put x u with defers := d :: (a.put x u).defers } := by
    intro x u; cases x <;> rfl
  have h := hy w hJ (fun a' w' => K { a' with defers := d :: a'.defers } w') (by rw [e] at hK; exact hK)
  have h2 := hy w hJ (fun a' _ => a' = a.put oi.dst v) rfl
  unfold wpOp at *
  simp only [hi] at *
  have hev : ({ a with defers := d :: a.defers } : Act).eval = a.eval := by funext x; cases x <;> rfl
  split
  · rename_i hw
    simp only [hw, if_true] at h h2
    replace h2 := h2.resolve_right (fun hl => no_lets _ hl.2)
    rcases h with h | ⟨_, hl⟩
    · left
      unfold Oper.wp at *
      rw [hev]
      generalize (execOp a.eval oi).run P w = r at *
      cases r with
      | ok x w' =>
        cases x <;> simp only [Oper.upon] at h ⊢
        case value u => rw [e]; exact h
        case skip => rw [e]; exact h
        case defer d' =>
          exfalso
          simp only [Oper.upon] at h2
          have h3 := congrArg (fun z : Act => z.defers.length) h2
          cases ho : oi.dst <;> simp [ho, Act.put] at h3
        case enter g args =>
          refine Calls.mono h fun e' w'' he => ?_
          cases e' with
          | returned u => simp only at he ⊢; rw [e]; exact he
          | panicked c => exact absurd he.1 (by simp)
          | outgrown => obtain ⟨_, _, hb, _⟩ := he; exact absurd hb (by simp)
        case row row args => exact Rows.mono h fun u w'' he => by rw [e]; exact he
      | halt x w' =>
        cases x <;> simp only [Oper.upon] at h ⊢
        case panic u => exact absurd h.1 (by simp)
    · exact absurd hl (no_lets _)
  · rename_i hw
    simp only [hw] at h
    rw [e]; exact h

theorem opJ_put {J : World → Prop} {i j : Nat} {oi oj : Oper} {v : Value} (hi : ops[i]? = some oi) (hj : ops[j]? = some oj) (hap : oi.apart ops oj = true)
    (hsi : ∀ cs b, oi.op ≠ .select cs b) (hsj : ∀ cs b, oj.op ≠ .select cs b)
    (hQ : ∀ c a w, Q (.panic c) (a.put oi.dst v) w → Q (.panic c) a w) {K : Act → World → Prop} {a : Act}
    (hy : Still P ops J i oi v a) (h : wpOp P ops Q j K (a.put oi.dst v) w) :
    wpOp P ops Q j (fun a' w' => Still P ops J i oi v a' ∧ K (a'.put oi.dst v) w') a w := by
  obtain ⟨h1, h2, h3⟩ := Oper.apart_spec hap
  have keep : ∀ u, Still P ops J i oi v (a.put oj.dst u) := fun u => hy.put hi hap hsi u
  unfold wpOp at *
  simp only [hj] at *
  rw [wanted_put oj a oi.dst v h1] at h
  split
  · rename_i hw
    simp only [hw, if_true] at h
    rcases h with h | ⟨hasks, hlets⟩
    case inr => exact .inr ⟨by unfold Oper.asks at *; rw [execOp_put oj hsj a oi.dst v h1] at hasks; exact hasks, hlets⟩
    refine .inl ?_
    unfold Oper.wp at *
    rw [execOp_put oj hsj a oi.dst v h1] at h
    generalize (execOp a.eval oj).run P w = r at *
    cases r with
    | ok x w' =>
      cases x <;> simp only [Oper.upon] at h ⊢
      case value u => exact ⟨keep u, by rw [← Act.put_comm a v u h2]; exact h⟩
      case skip => exact ⟨keep _, by rw [← Act.put_comm a v undef h2]; exact h⟩
      case defer d =>
        have k2 : Still P ops J i oi v (({ a with defers := d :: a.defers } : Act).put oj.dst undef) := (hy.defers hi d).put hi hap hsi undef
        refine ⟨k2, ?_⟩
        rw [← Act.put_comm _ v undef h2, ← Act.put_defers]
        exact h
      case enter g args =>
        refine Calls.mono h fun e w'' he => ?_
        cases e with
        | returned u => exact ⟨keep u, by rw [← Act.put_comm a v u h2]; exact he⟩
        | panicked c => exact hQ _ _ _ he
        | outgrown => exact he
      case row row args => exact Rows.mono h fun u w'' he => ⟨keep u, by rw [← Act.put_comm a v u h2]; exact he⟩
    | halt x w' =>
      cases x <;> simp only [Oper.upon] at h ⊢
      case panic u => exact hQ _ _ _ h
  · rename_i hw
    simp only [hw] at h
    exact ⟨keep _, by rw [← Act.put_comm a v undef h2]; exact h⟩

theorem wpJ_first {J : World → Prop} {i : Nat} {oi : Oper} {v : Value} (hi : ops[i]? = some oi) (hsel : ∀ (j : Nat) (o : Oper) cs b, ops[j]? = some o → o.op ≠ .select cs b)
    (hQ : ∀ c a w, Q (.panic c) (a.put oi.dst v) w → Q (.panic c) a w) :
    ∀ (fuel : Nat) (listed : Array Bool) (a : Act) (w : World), J w →
      (∀ j oj, ops[j]? = some oj → j ≠ i → listed.getD j true = false → (∀ e ∈ oj.after, Region.binds md e = true → e.on ≠ i) → oi.apart ops oj = true) →
      i ∈ Region.ready md ops listed → Still P ops J i oi v a →
      wpJ P md ops Q J fuel (listed.setIfInBounds i true) (a.put oi.dst v) w → wpJ P md ops Q J (fuel + 1) listed a w := by
  intro fuel
  induction fuel with
  | zero =>
    intro listed a w hJ _ hr hy H
    refine ⟨fun h => (by rw [h] at hr; cases hr), fun j hj => ?_⟩
    by_cases hji : j = i
    · subst hji; exact wpOp_q (hy w hJ _ ⟨hJ, H⟩)
    · have := ready_mono hj hji
      rw [H.1] at this
      cases this
  | succ fuel ih =>
    intro listed a w hJ hfree hr hy H
    refine ⟨fun h => (by rw [h] at hr; cases hr), fun j hj => ?_⟩
    by_cases hji : j = i
    · subst hji; exact wpOp_q (hy w hJ _ ⟨hJ, H⟩)
    · have h1 := H.2 j (ready_mono hj hji)
      obtain ⟨hjun, oj, hoj, hall⟩ := mem_ready.1 hj
      have hnot : ∀ e ∈ oj.after, Region.binds md e = true → e.on ≠ i := fun e he hb heq => by
        have h1 := hall e he hb
        have h0 := (mem_ready.1 hr).1
        rw [heq] at h1
        rcases Nat.lt_or_ge i listed.size with h' | h'
        · simp [h'] at h0 h1; rw [h0] at h1; cases h1
        · simp [Array.getElem?_eq_none h'] at h1
      have h2 := opJ_put hi hoj (hfree j oj hoj hji hjun hnot) (fun cs b => hsel i oi cs b hi) (fun cs b => hsel j oj cs b hoj) hQ hy h1
      have hfree' : ∀ k ok, ops[k]? = some ok → k ≠ i → (listed.setIfInBounds j true).getD k true = false →
          (∀ e ∈ ok.after, Region.binds md e = true → e.on ≠ i) → oi.apart ops ok = true := fun k ok hk hki hun hno => by
        refine hfree k ok hk hki ?_ hno
        by_cases hjk : j = k
        · subst hjk; exact hjun
        · rw [getD_set_ne true hjk] at hun; exact hun
      refine wpOp_mono (fun a' w' h3 => ⟨h3.2.1, ih (listed.setIfInBounds j true) a' w' h3.2.1 hfree' (ready_mono hr (Ne.symm hji)) h3.1 ?_⟩) h2
      rw [Array.setIfInBounds_comm _ _ hji]
      exact h3.2.2

theorem wpOp_list {i : Nat} {oi : Oper} {a : Act} {K : Act → World → Prop} (hi : ops[i]? = some oi) (h : wpList P ops (nrm K) [oi] a w) : wpOp P ops (nrm K) i K a w := by
  unfold wpOp
  simp only [hi]
  unfold wpList at h
  split
  · rename_i hw
    rw [if_pos hw] at h
    rcases h with h | ⟨_, hl⟩
    · exact .inl (Oper.wp_mono (fun a w hk => hk.2) h)
    · exact absurd hl (no_lets _)
  · rename_i hw
    rw [if_neg hw] at h
    exact h.2

/-- A still operation is taken first. -/
theorem d_take {J : World → Prop} {listed l' : Array Bool} {fuel i d : Nat} {oi : Oper} {v : Value} (hi : ops[i]? = some oi) (hs : Region.noSelect ops = true) (hf : Region.free md ops listed i = true)
    (hr : (Region.ready md ops listed).contains i = true) (hl : listed.setIfInBounds i true = l') (hd : oi.dst = some d) (hQ : ∀ c a w, Q (.panic c) (a.put (some d) v) w → Q (.panic c) a w) (hJ : J w)
    (hy : ∀ w, J w → ∀ K : Act → World → Prop, K (mk n (upd f d v)) w → wpList P ops (nrm K) [oi] (mk n f) w)
    (h : wpJ P md ops Q J fuel l' (mk n (upd f d v)) w) : wpJ P md ops Q J (fuel + 1) listed (mk n f) w := by
  subst hl
  refine wpJ_first hi (Region.noSelect_spec hs) (v := v) (by rw [hd]; exact hQ) fuel listed _ w hJ (Region.free_spec hi hf) (by simpa using hr) ?_ (by rw [hd, put_mk]; exact h)
  intro w hJ K hK
  rw [hd, put_mk] at hK
  exact wpOp_list hi (hy w hJ K hK)

/-- The only operation that may come. -/
theorem d_one {J : World → Prop} {listed l' : Array Bool} {fuel i : Nat} {oi : Oper} (hr : Region.ready md ops listed = [i]) (hi : ops[i]? = some oi) (hl : listed.setIfInBounds i true = l')
    (h : wpList P ops (nrm fun a w => J w ∧ wpJ P md ops Q J fuel l' a w) [oi] (mk n f) w) : wpJ P md ops Q J (fuel + 1) listed (mk n f) w := by
  subst hl
  refine ⟨fun h0 => (by rw [hr] at h0; cases h0), ?_⟩
  rw [hr]
  intro j hj
  rw [List.mem_singleton] at hj
  subst hj
  exact wpOp_q (wpOp_list hi h)
/-- Two operations, either of which may come. -/
theorem d_two {J : World → Prop} {listed li lj : Array Bool} {fuel i j : Nat} {oi oj : Oper} (hr : Region.ready md ops listed = [i, j]) (hi : ops[i]? = some oi) (hj : ops[j]? = some oj) (hli : listed.setIfInBounds i true = li) (hlj : listed.setIfInBounds j true = lj)
    (h : wpList P ops (nrm fun a w => J w ∧ wpJ P md ops Q J fuel li a w) [oi] (mk n f) w) (h' : wpList P ops (nrm fun a w => J w ∧ wpJ P md ops Q J fuel lj a w) [oj] (mk n f) w) : wpJ P md ops Q J (fuel + 1) listed (mk n f) w := by
  subst hli; subst hlj
  refine ⟨fun h0 => (by rw [hr] at h0; cases h0), ?_⟩
  rw [hr]
  intro k hk
  simp only [List.mem_cons, List.not_mem_nil, or_false] at hk
  rcases hk with rfl | rfl
  · exact wpOp_q (wpOp_list hi h)
  · exact wpOp_q (wpOp_list hj h')
theorem d_done {J : World → Prop} {listed : Array Bool} {a : Act} (hr : Region.ready md ops listed = []) (h : Q .normal a w) : wpJ P md ops Q J 0 listed a w := ⟨hr, h⟩
/-- Into the region. -/
theorem d_reg {id m : Nat} {L : Array Bool} (J : World → Prop) (hm : P.follows .mixedOrders = true) (hs : ops.size = m) (hL : Array.replicate m false = L)
    (h : wpJ P .any ops Q J m L (mk n f) w.drew) : (Code.region id ops true).wp P Q (mk n f) w := by
  subst hs; subst hL
  exact wp_region_any hm (wpJ_any _ _ _ _ h)

#print axioms d_take
#print axioms d_reg
end Go.Fl
end
