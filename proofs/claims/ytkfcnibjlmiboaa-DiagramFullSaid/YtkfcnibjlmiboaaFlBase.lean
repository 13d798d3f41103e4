/- Frames as functions, and the rules of control in that form. Conditions: none; every rule speaks of any program. -/
import Derived.WalkKit
import Derived.WalkLawsBesides
import Derived.RegionTactic
namespace Go.Fl
open Go Go.RowKit

/-- A frame: what each slot holds. -/
abbrev Fr := Nat → Value

def upd (f : Fr) (d : Nat) (v : Value) : Fr := fun k => bif Nat.beq k d then v else f k

/-- The state whose n slots read as f, nothing deferred. -/
def mk (n : Nat) (f : Fr) : Act := ⟨Array.ofFn (n := n) fun i => f i.val, []⟩

/-- The value of an operand. -/
def ev (n : Nat) (f : Fr) : Operand → Value
  | .tmp t => bif Nat.blt t n then f t else undef
  | .const v => v
  | .global g => .pointer (some ⟨g, 0, none⟩)
  | .func k => .func (.func k) #[] #[]

/-- The first slots: the arguments. -/
def frl : List Value → Fr
  | [], _ => undef
  | v :: _, 0 => v
  | _ :: l, k + 1 => frl l k

theorem mk_getD (n : Nat) (f : Fr) (t : Nat) : (mk n f).tmps.getD t undef = if t < n then f t else undef := by
  rw [Array.getD_eq_getD_getElem?]
  by_cases h : t < n
  · rw [if_pos h]; simp [mk, h]
  · rw [if_neg h, Array.getElem?_eq_none (by simp [mk]; omega)]; rfl

theorem eval_mk (n : Nat) (f : Fr) : (mk n f).eval = ev n f := by
  funext x
  cases x with
  | tmp t =>
    show (mk n f).tmps.getD t undef = ev n f (.tmp t)
    rw [mk_getD]
    simp only [ev]
    by_cases h : t < n
    · have hb : Nat.blt t n = true := by rw [Nat.blt_eq]; exact h
      rw [if_pos h, hb]; rfl
    · rw [if_neg h]
      have : Nat.blt t n = false := by
        cases hb : Nat.blt t n
        · rfl
        · exact absurd (by rw [Nat.blt_eq] at hb; exact hb) h
      rw [this]; rfl
  | const v => rfl
  | global g => rfl
  | func k => rfl

theorem put_mk (n : Nat) (f : Fr) (d : Nat) (v : Value) : (mk n f).put (some d) v = mk n (upd f d v) := by
  simp only [Act.put, mk]
  congr 1
  apply Array.ext
  · simp
  · intro i h1 h2
    simp only [Array.getElem_ofFn, upd]
    rw [Array.getElem_setIfInBounds (by simpa using h1)]
    by_cases h : d = i
    · subst h; simp
    · have : Nat.beq i d = false := by
        cases hb : Nat.beq i d
        · rfl
        · exact absurd (Nat.eq_of_beq_eq_true hb).symm h
      rw [if_neg h, this]; simp

theorem put_none (n : Nat) (f : Fr) (v : Value) : (mk n f).put none v = mk n f := rfl

theorem upd_self {f : Fr} {d : Nat} {v : Value} (h : f d = v) : f = upd f d v := by
  funext k
  simp only [upd]
  cases hb : Nat.beq k d
  · rfl
  · rw [Nat.eq_of_beq_eq_true hb, h]; rfl
theorem upd_in {f g : Fr} {d : Nat} {v : Value} (h : f d = v) (hg : f = g) : f = upd g d v := hg ▸ upd_self (hg ▸ h)

theorem frl_eq (args : List Value) (k : Nat) : frl args k = args.getD k undef := by
  induction args generalizing k with
  | nil => rfl
  | cons a l ih => cases k with
    | zero => rfl
    | succ k => simpa [frl] using ih k

theorem start_mk {n : Nat} (args : Array Value) (h : args.size ≤ n) :
    ({ tmps := args ++ Array.replicate (n - args.size) undef, defers := [] } : Act) = mk n (frl args.toList) := by
  simp only [mk]
  congr 1
  apply Array.ext
  · simp; omega
  · intro i h1 h2
    simp only [Array.getElem_ofFn, frl_eq, Array.getElem_append]
    split
    · rename_i hi
      simp [List.getD, hi]
    · rename_i hi
      simp [List.getD, Array.getElem_replicate]
      rw [Array.getElem?_eq_none (by omega)]; rfl

variable {P : Program}

/-- Into a function: its body over the frame of its arguments. -/
theorem enter {f : FuncId} {fn : Func} {c : Code} {args : Array Value} {n : Nat} {w : World} {R : Ending → World → Prop}
    (hf : P.funcs[f]? = some fn) (hb : fn.body = some c) (hn : fn.ntmps = n) (hs : Nat.ble args.size n = true)
    (h : c.wp P (bodyPost P fn R) (mk n (frl args.toList)) w) : Calls P f args w R := by
  refine calls_of_wp hf hb ?_
  subst hn
  rw [start_mk args (Nat.le_of_ble_eq_true hs)]
  exact h

theorem ret0 {fn : Func} {R : Ending → World → Prop} {n : Nat} {f : Fr} {w : World} (h : fn.results = #[]) (hR : R (.returned (.tuple #[])) w) :
    bodyPost P fn R .ret (mk n f) w := bodyPost_ret (results_none h _ _ _) rfl hR
theorem ret0n {fn : Func} {R : Ending → World → Prop} {n : Nat} {f : Fr} {w : World} (h : fn.results = #[]) (hR : R (.returned (.tuple #[])) w) :
    bodyPost P fn R .normal (mk n f) w := bodyPost_end (results_none h _ _ _) rfl hR

theorem res_ev {n : Nat} {f : Fr} {t : Tmp} {v : Value} (hv : ev n f (.tmp t) = v) : (mk n f).tmps.getD t undef = v := by
  have : (mk n f).eval (.tmp t) = v := by rw [eval_mk]; exact hv
  exact this

theorem ret1 {fn : Func} {R : Ending → World → Prop} {n : Nat} {f : Fr} {w : World} {t : Tmp} {v : Value} (h : fn.results = #[.tmp t])
    (hv : ev n f (.tmp t) = v) (hR : R (.returned v) w) : bodyPost P fn R .ret (mk n f) w :=
  bodyPost_ret (results_tmp h _ _ _) rfl (by rw [res_ev hv]; exact hR)
theorem ret1n {fn : Func} {R : Ending → World → Prop} {n : Nat} {f : Fr} {w : World} {t : Tmp} {v : Value} (h : fn.results = #[.tmp t])
    (hv : ev n f (.tmp t) = v) (hR : R (.returned v) w) : bodyPost P fn R .normal (mk n f) w :=
  bodyPost_end (results_tmp h _ _ _) rfl (by rw [res_ev hv]; exact hR)
theorem ret2 {fn : Func} {R : Ending → World → Prop} {n : Nat} {f : Fr} {w : World} {t u : Tmp} {v v2 : Value} (h : fn.results = #[.tmp t, .tmp u])
    (hv : ev n f (.tmp t) = v) (hv2 : ev n f (.tmp u) = v2) (hR : R (.returned (.tuple #[v, v2])) w) : bodyPost P fn R .ret (mk n f) w :=
  bodyPost_ret (results_tmp2 h _ _ _) rfl (by rw [res_ev hv, res_ev hv2]; exact hR)
theorem ret3 {fn : Func} {R : Ending → World → Prop} {n : Nat} {f : Fr} {w : World} {t u x : Tmp} {v v2 v3 : Value} (h : fn.results = #[.tmp t, .tmp u, .tmp x])
    (hv : ev n f (.tmp t) = v) (hv2 : ev n f (.tmp u) = v2) (hv3 : ev n f (.tmp x) = v3) (hR : R (.returned (.tuple #[v, v2, v3])) w) : bodyPost P fn R .ret (mk n f) w :=
  bodyPost_ret (results_tmp3 h _ _ _) rfl (by rw [res_ev hv, res_ev hv2, res_ev hv3]; exact hR)
/-- One result that lies in a variable of its own (a struct, an array): the variable's block is read. -/
theorem retrow {fn : Func} {R : Ending → World → Prop} {n : Nat} {f : Fr} {w : World} {t : Tmp} {ty : TypeId} {g : Nat} {tt : TypeId} {cs : Array Value} {d : TypeDesc}
    (h : fn.results = #[.cell t ty]) (hv : ev n f (.tmp t) = .pointer (some ⟨g, 0, none⟩)) (hg : w.heap[g]? = some (.cells cs tt (0, 0)))
    (hu : P.underlying ty = some d) (hd : (match d with | .struct _ | .array _ _ => true | _ => false) = true) (hi : (P.info? ty).map (·.size) = some cs.size)
    (hR : R (.returned (.agg cs)) w) : bodyPost P fn R .ret (mk n f) w :=
  bodyPost_ret (results_cell_row h _ w g tt cs (0, 0) d (res_ev hv) hg hu hd hi) rfl hR

section code
variable {Q : Exit → Act → World → Prop} {n : Nat} {f : Fr} {w : World}

/-- 'region; rest': the operations, then the rest. -/
theorem seq_reg {id : Nat} {ops : Array Oper} {y : Code} (h : wpList P ops (Exit.then (y.wp P Q) Q) ops.toList (mk n f) w) :
    (Code.seq (.region id ops false) y).wp P Q (mk n f) w := wp_seq (wp_region_list h)
theorem one_reg {id : Nat} {ops : Array Oper} (h : wpList P ops Q ops.toList (mk n f) w) :
    (Code.region id ops false).wp P Q (mk n f) w := wp_region_list h
theorem nil_then {ops : Array Oper} {y : Code} (h : y.wp P Q (mk n f) w) : wpList P ops (Exit.then (y.wp P Q) Q) [] (mk n f) w := h
theorem nil_q {ops : Array Oper} (h : Q .normal (mk n f) w) : wpList P ops Q [] (mk n f) w := h

theorem if_d {c : Operand} {x y : Code} (p : Prop) [Decidable p] (hc : ev n f c = .bool (decide p)) (ht : p → x.wp P Q (mk n f) w) (hf : ¬ p → y.wp P Q (mk n f) w) :
    (Code.cond c x y).wp P Q (mk n f) w := by
  by_cases h : p
  · exact wp_cond_true (by rw [eval_mk, hc, decide_eq_true h]) (ht h)
  · exact wp_cond_false (by rw [eval_mk, hc, decide_eq_false h]) (hf h)
theorem if_b {c : Operand} {x y : Code} {b : Bool} (hc : ev n f c = .bool b) (ht : b = true → x.wp P Q (mk n f) w) (hf : b = false → y.wp P Q (mk n f) w) :
    (Code.cond c x y).wp P Q (mk n f) w := by
  cases b
  · exact wp_cond_false (by rw [eval_mk, hc]) (hf rfl)
  · exact wp_cond_true (by rw [eval_mk, hc]) (ht rfl)
theorem if_t {c : Operand} {x y : Code} (hc : ev n f c = .bool true) (ht : x.wp P Q (mk n f) w) : (Code.cond c x y).wp P Q (mk n f) w :=
  wp_cond_true (by rw [eval_mk, hc]) ht
theorem if_f {c : Operand} {x y : Code} (hc : ev n f c = .bool false) (hf : y.wp P Q (mk n f) w) : (Code.cond c x y).wp P Q (mk n f) w :=
  wp_cond_false (by rw [eval_mk, hc]) hf

/-- A loop: the measure is the invariant's first argument. -/
theorem loop {c : Code} (I : Nat → Fr → World → Prop) {m0 : Nat} (h0 : I m0 f w)
    (round : ∀ m f w, I m f w → c.wp P (Exit.then (fun a' w' => ∃ m' f', a' = mk n f' ∧ I m' f' w' ∧ m' < m) Q) (mk n f) w) :
    (Code.loop c).wp P Q (mk n f) w := by
  intro b k cs
  have key : ∀ m f w, I m f w →
      ∃ e a' w', Q e a' w' ∧ Arrives P (lone (b.at (mk n f) (.code c :: .inLoop c :: k)) cs w) b k cs e a' w' := by
    intro m
    induction m using Nat.strongRecOn with
    | _ m ih =>
      intro f w hI
      obtain ⟨e, a₁, w₁, hq, harr⟩ := round m f w hI b (.inLoop c :: k) cs
      cases e with
      | normal =>
        obtain ⟨m', f', rfl, hI₁, hlt⟩ := hq
        obtain ⟨e₂, a₂, w₂, hq₂, harr₂⟩ := ih m' hlt f' w₁ hI₁
        exact ⟨e₂, a₂, w₂, hq₂, .of_steps (Steps.trans harr (.one step_inLoop)) harr₂⟩
      | exit id => exact ⟨_, a₁, w₁, hq, .pass (x := .inLoop c) rfl (fun _ _ => .inl (by simp)) harr⟩
      | goto l => exact ⟨_, a₁, w₁, hq, .pass (x := .inLoop c) rfl (fun _ _ => .inl (by simp)) harr⟩
      | ret => exact ⟨_, a₁, w₁, hq, .pass (x := .inLoop c) rfl (fun _ _ => .inl (by simp)) harr⟩
      | panic ch => exact ⟨_, a₁, w₁, hq, .pass (x := .inLoop c) rfl (fun _ _ => .inl (by simp)) harr⟩
      | outgrown => exact ⟨_, a₁, w₁, hq, .pass (x := .inLoop c) rfl (fun _ _ => .inl (by simp)) harr⟩
  obtain ⟨e, a', w', hq, harr⟩ := key m0 f w h0
  exact ⟨e, a', w', hq, .of_steps (.one step_loop) harr⟩

/-- A piece of code by what holds behind it (normal way out), all other ways handed on: ways meet again. -/
theorem cut {x y : Code} (M : Fr → World → Prop) (h : x.wp P (Exit.then (fun a w => ∃ f, a = mk n f ∧ M f w) Q) (mk n f) w)
    (hy : ∀ f w, M f w → y.wp P Q (mk n f) w) : (Code.seq x y).wp P Q (mk n f) w := by
  refine wp_seq (Code.wp_mono ?_ h)
  intro e a w hq
  cases e with
  | normal => obtain ⟨f', rfl, hM⟩ := hq; exact hy _ _ hM
  | _ => exact hq
end code

attribute [irreducible] mk

#print axioms enter
#print axioms loop
#print axioms cut
end Go.Fl
