/- One rule an operation, over frames as functions: plain values. Conditions: none; every rule speaks of any program. -/
import Derived.Test.YtkfcnibjlmiboaaFlState
import Derived.Laws.StructEq
namespace Go.Fl
open Go Go.RowKit

variable {P : Program} {ops : Array Oper} {Q : Exit → Act → World → Prop} {rest : List Oper} {n : Nat} {f : Fr} {w w' : World} {d : Nat} {t : TypeId} {p : String} {af : Array Edge}

theorem o_val {o : Oper} {v : Value} (hd : o.dst = some d) (hg : o.guard = none) (hrun : (execOp (ev n f) o).run P w = .ok (.value v) w')
    (h : wpList P ops Q rest (mk n (upd f d v)) w') : wpList P ops Q (o :: rest) (mk n f) w := by
  refine wpList_plain hg fun K hK => ?_
  unfold Oper.wp
  rw [eval_mk, hrun]
  show K ((mk n f).put o.dst v) w'
  rw [hd, put_mk]
  exact hK _ _ h

theorem o_skip {o : Oper} (hd : o.dst = none) (hg : o.guard = none) (hrun : (execOp (ev n f) o).run P w = .ok .skip w')
    (h : wpList P ops Q rest (mk n f) w') : wpList P ops Q (o :: rest) (mk n f) w := by
  refine wpList_plain hg fun K hK => ?_
  unfold Oper.wp
  rw [eval_mk, hrun]
  show K ((mk n f).put o.dst undef) w'
  rw [hd, put_none]
  exact hK _ _ h

theorem o_enter {o : Oper} {fid : FuncId} {args : Array Value} (hg : o.guard = none) (hd : o.dst = some d) (hrun : (execOp (ev n f) o).run P w = .ok (.enter fid args) w)
    (hc : Calls P fid args w fun e w1 => ∃ v, e = .returned v ∧ wpList P ops Q rest (mk n (upd f d v)) w1) : wpList P ops Q (o :: rest) (mk n f) w := by
  refine wpList_plain hg fun K hK => ?_
  unfold Oper.wp
  rw [eval_mk, hrun]
  refine hc.mono ?_
  rintro e w1 ⟨v, rfl, h⟩
  show K ((mk n f).put o.dst v) w1
  rw [hd, put_mk]
  exact hK _ _ h

/-- A guarded operation that is carried out. -/
theorem o_on {dst : Option Nat} {op : Op} {j dj : Nat} {b : Bool} (hj : (ops[j]?).bind (·.dst) = some dj) (hv : ev n f (.tmp dj) = .bool b)
    (h : wpList P ops Q (⟨dst, op, t, p, af, none⟩ :: rest) (mk n f) w) : wpList P ops Q (⟨dst, op, t, p, af, some (j, b)⟩ :: rest) (mk n f) w := by
  have hw : Region.wanted ⟨dst, op, t, p, af, some (j, b)⟩ (yielded ops (mk n f).tmps) = true := by
    have h2 : (mk n f).tmps.getD dj undef = .bool b := res_ev hv
    have h3 : (mk n f).tmps[dj]? = some (.bool b) := by
      rw [Array.getD_eq_getD_getElem?] at h2
      cases hx : (mk n f).tmps[dj]? with
      | none => rw [hx] at h2; cases h2
      | some x => rw [hx] at h2; exact congrArg some h2
    simp [Region.wanted, yielded, hj, h3]
  unfold wpList at h ⊢
  rw [if_pos hw]
  rw [if_pos (by simp [Region.wanted])] at h
  exact h
/-- A guarded operation that is passed over. -/
theorem o_off {op : Op} {j dj : Nat} {b : Bool} (hj : (ops[j]?).bind (·.dst) = some dj) (hv : ev n f (.tmp dj) = .bool (!b))
    (h : wpList P ops Q rest (mk n (upd f d undef)) w) : wpList P ops Q (⟨some d, op, t, p, af, some (j, b)⟩ :: rest) (mk n f) w := by
  have hw : Region.wanted ⟨some d, op, t, p, af, some (j, b)⟩ (yielded ops (mk n f).tmps) = false := by
    have h2 : (mk n f).tmps.getD dj undef = .bool (!b) := res_ev hv
    have h3 : (mk n f).tmps[dj]? = some (.bool (!b)) := by
      rw [Array.getD_eq_getD_getElem?] at h2
      cases hx : (mk n f).tmps[dj]? with
      | none => rw [hx] at h2; cases h2
      | some x => rw [hx] at h2; exact congrArg some h2
    simp [Region.wanted, yielded, hj, h3]
  unfold wpList
  rw [if_neg (by rw [hw]; simp)]
  rw [put_mk]
  exact h
theorem o_offn {op : Op} {j dj : Nat} {b : Bool} (hj : (ops[j]?).bind (·.dst) = some dj) (hv : ev n f (.tmp dj) = .bool (!b))
    (h : wpList P ops Q rest (mk n f) w) : wpList P ops Q (⟨none, op, t, p, af, some (j, b)⟩ :: rest) (mk n f) w := by
  have hw : Region.wanted ⟨none, op, t, p, af, some (j, b)⟩ (yielded ops (mk n f).tmps) = false := by
    have h2 : (mk n f).tmps.getD dj undef = .bool (!b) := res_ev hv
    have h3 : (mk n f).tmps[dj]? = some (.bool (!b)) := by
      rw [Array.getD_eq_getD_getElem?] at h2
      cases hx : (mk n f).tmps[dj]? with
      | none => rw [hx] at h2; cases h2
      | some x => rw [hx] at h2; exact congrArg some h2
    simp [Region.wanted, yielded, hj, h3]
  unfold wpList
  rw [if_neg (by rw [hw]; simp)]
  exact h

theorem o_move {x : Operand} {v : Value} (hx : ev n f x = v) (h : wpList P ops Q rest (mk n (upd f d v)) w) :
    wpList P ops Q (⟨some d, .move x, t, p, af, none⟩ :: rest) (mk n f) w := o_val rfl rfl (by subst hx; rfl) h
theorem o_assign {x : Operand} {v : Value} (hx : ev n f x = v) (h : wpList P ops Q rest (mk n (upd f d v)) w) :
    wpList P ops Q (⟨some d, .assign x, t, p, af, none⟩ :: rest) (mk n f) w := o_val rfl rfl (by subst hx; rfl) h
theorem o_pick_t {c x y : Operand} {v : Value} (hc : ev n f c = .bool true) (hx : ev n f x = v) (h : wpList P ops Q rest (mk n (upd f d v)) w) :
    wpList P ops Q (⟨some d, .pick c x y, t, p, af, none⟩ :: rest) (mk n f) w := o_val rfl rfl (by subst hx; simp [execOp, hc, asBool]) h
theorem o_pick_f {c x y : Operand} {v : Value} (hc : ev n f c = .bool false) (hx : ev n f y = v) (h : wpList P ops Q rest (mk n (upd f d v)) w) :
    wpList P ops Q (⟨some d, .pick c x y, t, p, af, none⟩ :: rest) (mk n f) w := o_val rfl rfl (by subst hx; simp [execOp, hc, asBool]) h

/-- A slot's value, written otherwise. -/
theorem o_re {v v' : Value} (hv : v = v') (h : wpList P ops Q rest (mk n (upd f d v')) w) : wpList P ops Q rest (mk n (upd f d v)) w := by rw [hv]; exact h

/-! Integers. -/
theorem nw {a r : Int} (h : a = r) (h1 : -9223372036854775808 ≤ a) (h2 : a ≤ 9223372036854775807) : IntKind.i64.wrap a = r := by
  rw [IntKind.wrap_i64]; omega

theorem o_add {k : IntKind} {xt yt : TypeId} {x y : Operand} {a b r : Int} (hx : ev n f x = .int k a) (hy : ev n f y = .int k b) (hr : k.wrap (a + b) = r)
    (h : wpList P ops Q rest (mk n (upd f d (.int k r))) w) : wpList P ops Q (⟨some d, .binOp .add xt x y yt, t, p, af, none⟩ :: rest) (mk n f) w :=
  o_val rfl rfl (by subst hr; simp [execOp, hx, hy, eqGuard, binOp, Op.intArith]) h
theorem o_sub {k : IntKind} {xt yt : TypeId} {x y : Operand} {a b r : Int} (hx : ev n f x = .int k a) (hy : ev n f y = .int k b) (hr : k.wrap (a - b) = r)
    (h : wpList P ops Q rest (mk n (upd f d (.int k r))) w) : wpList P ops Q (⟨some d, .binOp .sub xt x y yt, t, p, af, none⟩ :: rest) (mk n f) w :=
  o_val rfl rfl (by subst hr; simp [execOp, hx, hy, eqGuard, binOp, Op.intArith]) h
theorem o_mul {k : IntKind} {xt yt : TypeId} {x y : Operand} {a b r : Int} (hx : ev n f x = .int k a) (hy : ev n f y = .int k b) (hr : k.wrap (a * b) = r)
    (h : wpList P ops Q rest (mk n (upd f d (.int k r))) w) : wpList P ops Q (⟨some d, .binOp .mul xt x y yt, t, p, af, none⟩ :: rest) (mk n f) w :=
  o_val rfl rfl (by subst hr; simp [execOp, hx, hy, eqGuard, binOp, Op.intArith]) h
theorem o_rem {k : IntKind} {xt yt : TypeId} {x y : Operand} {a b r : Int} (hx : ev n f x = .int k a) (hy : ev n f y = .int k b) (hb : b ≠ 0) (hr : a.tmod b = r)
    (h : wpList P ops Q rest (mk n (upd f d (.int k r))) w) : wpList P ops Q (⟨some d, .binOp .rem xt x y yt, t, p, af, none⟩ :: rest) (mk n f) w :=
  o_val rfl rfl (by subst hr; simp [execOp, hx, hy, eqGuard, binOp, Op.intDiv, hb]) h
theorem o_quo {k : IntKind} {xt yt : TypeId} {x y : Operand} {a b r : Int} (hx : ev n f x = .int k a) (hy : ev n f y = .int k b) (hb : b ≠ 0) (hr : k.wrap (a.tdiv b) = r)
    (h : wpList P ops Q rest (mk n (upd f d (.int k r))) w) : wpList P ops Q (⟨some d, .binOp .quo xt x y yt, t, p, af, none⟩ :: rest) (mk n f) w :=
  o_val rfl rfl (by subst hr; simp [execOp, hx, hy, eqGuard, binOp, Op.intDiv, hb]) h

/-- A comparison of integers, as a truth value. -/
def cmpI : BinOp → Int → Int → Bool
  | .eql, a, b => decide (a = b)
  | .neq, a, b => !decide (a = b)
  | .lss, a, b => decide (a < b)
  | .leq, a, b => decide (a ≤ b)
  | .gtr, a, b => decide (b < a)
  | .geq, a, b => decide (b ≤ a)
  | _, _, _ => false
theorem o_cmp {op : BinOp} {k : IntKind} {xt yt : TypeId} {x y : Operand} {a b : Int} {r : Bool} (hx : ev n f x = .int k a) (hy : ev n f y = .int k b)
    (hop : op = .eql ∨ op = .neq ∨ op = .lss ∨ op = .leq ∨ op = .gtr ∨ op = .geq) (hr : cmpI op a b = r)
    (h : wpList P ops Q rest (mk n (upd f d (.bool r))) w) : wpList P ops Q (⟨some d, .binOp op xt x y yt, t, p, af, none⟩ :: rest) (mk n f) w := by
  refine o_val rfl rfl ?_ h
  subst hr
  rcases hop with rfl | rfl | rfl | rfl | rfl | rfl <;> simp [execOp, hx, hy, eqGuard, binOp, Op.intCmp, cmpI]
  · by_cases h : a = b <;> simp [h]
  · by_cases h : a = b <;> simp [h]

theorem o_eql {k : IntKind} {xt yt : TypeId} {x y : Operand} {a b : Int} {r : Bool} (hx : ev n f x = .int k a) (hy : ev n f y = .int k b) (hr : decide (a = b) = r)
    (h : wpList P ops Q rest (mk n (upd f d (.bool r))) w) : wpList P ops Q (⟨some d, .binOp .eql xt x y yt, t, p, af, none⟩ :: rest) (mk n f) w := o_cmp hx hy (by simp) hr h
theorem o_neq {k : IntKind} {xt yt : TypeId} {x y : Operand} {a b : Int} {r : Bool} (hx : ev n f x = .int k a) (hy : ev n f y = .int k b) (hr : (!decide (a = b)) = r)
    (h : wpList P ops Q rest (mk n (upd f d (.bool r))) w) : wpList P ops Q (⟨some d, .binOp .neq xt x y yt, t, p, af, none⟩ :: rest) (mk n f) w := o_cmp hx hy (by simp) hr h
theorem o_lss {k : IntKind} {xt yt : TypeId} {x y : Operand} {a b : Int} {r : Bool} (hx : ev n f x = .int k a) (hy : ev n f y = .int k b) (hr : decide (a < b) = r)
    (h : wpList P ops Q rest (mk n (upd f d (.bool r))) w) : wpList P ops Q (⟨some d, .binOp .lss xt x y yt, t, p, af, none⟩ :: rest) (mk n f) w := o_cmp hx hy (by simp) hr h
theorem o_leq {k : IntKind} {xt yt : TypeId} {x y : Operand} {a b : Int} {r : Bool} (hx : ev n f x = .int k a) (hy : ev n f y = .int k b) (hr : decide (a ≤ b) = r)
    (h : wpList P ops Q rest (mk n (upd f d (.bool r))) w) : wpList P ops Q (⟨some d, .binOp .leq xt x y yt, t, p, af, none⟩ :: rest) (mk n f) w := o_cmp hx hy (by simp) hr h
theorem o_gtr {k : IntKind} {xt yt : TypeId} {x y : Operand} {a b : Int} {r : Bool} (hx : ev n f x = .int k a) (hy : ev n f y = .int k b) (hr : decide (b < a) = r)
    (h : wpList P ops Q rest (mk n (upd f d (.bool r))) w) : wpList P ops Q (⟨some d, .binOp .gtr xt x y yt, t, p, af, none⟩ :: rest) (mk n f) w := o_cmp hx hy (by simp) hr h
theorem o_geq {k : IntKind} {xt yt : TypeId} {x y : Operand} {a b : Int} {r : Bool} (hx : ev n f x = .int k a) (hy : ev n f y = .int k b) (hr : decide (b ≤ a) = r)
    (h : wpList P ops Q rest (mk n (upd f d (.bool r))) w) : wpList P ops Q (⟨some d, .binOp .geq xt x y yt, t, p, af, none⟩ :: rest) (mk n f) w := o_cmp hx hy (by simp) hr h
theorem o_not {xt : TypeId} {x : Operand} {b r : Bool} (hx : ev n f x = .bool b) (hr : (!b) = r)
    (h : wpList P ops Q rest (mk n (upd f d (.bool r))) w) : wpList P ops Q (⟨some d, .unOp .not xt x, t, p, af, none⟩ :: rest) (mk n f) w :=
  o_val rfl rfl (by subst hr; simp [execOp, hx, Op.unary]) h
theorem o_neg {k : IntKind} {xt : TypeId} {x : Operand} {a r : Int} (hx : ev n f x = .int k a) (hr : k.wrap (0 - a) = r)
    (h : wpList P ops Q rest (mk n (upd f d (.int k r))) w) : wpList P ops Q (⟨some d, .unOp .neg xt x, t, p, af, none⟩ :: rest) (mk n f) w :=
  o_val rfl rfl (by subst hr; simp [execOp, hx, Op.unary, Op.intArith]) h
/-- A conversion between integer types. -/
theorem o_conv {k k' : IntKind} {st dt : TypeId} {ds : TypeDesc} {x : Operand} {a r : Int} (hx : ev n f x = .int k a) (h1 : P.underlying st = some ds) (h2 : P.underlying dt = some (.int k')) (hr : k'.wrap a = r)
    (h : wpList P ops Q rest (mk n (upd f d (.int k' r))) w) : wpList P ops Q (⟨some d, .convert st dt x, t, p, af, none⟩ :: rest) (mk n f) w :=
  o_val rfl rfl (by subst hr; simp [execOp, hx, convert, run_underlying h1, run_underlying h2, Conv.intToInt]) h

/-! Strings. -/
theorem bytes_beq (a b : ByteArray) : (a.toList == b.toList) = decide (a = b) := by
  by_cases h : a = b
  · subst h; simp
  · have : a.toList ≠ b.toList := by
      intro e
      apply h
      have : a.data.toList = b.data.toList := by simpa [ByteArray.toList_eq] using e
      cases a; cases b
      simpa using this
    simp [h, this]
theorem o_eqls {xt yt : TypeId} {x y : Operand} {a b : ByteArray} {r : Bool} (hx : ev n f x = .string a) (hy : ev n f y = .string b) (hr : decide (a = b) = r)
    (h : wpList P ops Q rest (mk n (upd f d (.bool r))) w) : wpList P ops Q (⟨some d, .binOp .eql xt x y yt, t, p, af, none⟩ :: rest) (mk n f) w :=
  o_val rfl rfl (by subst hr; simp [execOp, hx, hy, eqGuard, binOp, Op.stringOp, bytes_beq]) h
theorem o_neqs {xt yt : TypeId} {x y : Operand} {a b : ByteArray} {r : Bool} (hx : ev n f x = .string a) (hy : ev n f y = .string b) (hr : (!decide (a = b)) = r)
    (h : wpList P ops Q rest (mk n (upd f d (.bool r))) w) : wpList P ops Q (⟨some d, .binOp .neq xt x y yt, t, p, af, none⟩ :: rest) (mk n f) w :=
  o_val rfl rfl (by subst hr; simp [execOp, hx, hy, eqGuard, binOp, Op.stringOp, bytes_beq]) h

/-- Two structs. -/
theorem o_eqlA {xt yt : TypeId} {x y : Operand} {a b : Value} {r : Bool} (hx : ev n f x = a) (hy : ev n f y = b) (hg : ∀ w, (eqGuard .eql xt x y a b).run P w = .ok () w) (hr : ∀ w, (binOp .eql xt a b).run P w = .ok (.bool r) w)
    (h : wpList P ops Q rest (mk n (upd f d (.bool r))) w) : wpList P ops Q (⟨some d, .binOp .eql xt x y yt, t, p, af, none⟩ :: rest) (mk n f) w :=
  o_val rfl rfl (by simp [execOp, hx, hy, hg, hr]) h
theorem o_neqA {xt yt : TypeId} {x y : Operand} {a b : Value} {r : Bool} (hx : ev n f x = a) (hy : ev n f y = b) (hg : ∀ w, (eqGuard .neq xt x y a b).run P w = .ok () w) (hr : ∀ w, (binOp .neq xt a b).run P w = .ok (.bool r) w)
    (h : wpList P ops Q rest (mk n (upd f d (.bool r))) w) : wpList P ops Q (⟨some d, .binOp .neq xt x y yt, t, p, af, none⟩ :: rest) (mk n f) w :=
  o_val rfl rfl (by simp [execOp, hx, hy, hg, hr]) h

/-! len, cap, min, max. -/
theorem o_len_slice {st e : TypeId} {x : Operand} {a : Option Addr} {len cap : Nat} (hx : ev n f x = .slice a len cap) (hu : P.underlying st = some (.slice e))
    (h : wpList P ops Q rest (mk n (upd f d (.int .i64 (len : Nat)))) w) : wpList P ops Q (⟨some d, .call ⟨.builtin .len, #[x], #[st]⟩, t, p, af, none⟩ :: rest) (mk n f) w :=
  o_val rfl rfl (by simp [execOp, hx, resolve, invoke, builtin, Builtin.len_, run_underlying hu, goInt]) h
theorem o_len_str {st : TypeId} {x : Operand} {s : ByteArray} (hx : ev n f x = .string s) (hu : P.underlying st = some .string)
    (h : wpList P ops Q rest (mk n (upd f d (.int .i64 (s.size : Nat)))) w) : wpList P ops Q (⟨some d, .call ⟨.builtin .len, #[x], #[st]⟩, t, p, af, none⟩ :: rest) (mk n f) w :=
  o_val rfl rfl (by simp [execOp, hx, resolve, invoke, builtin, Builtin.len_, run_underlying hu, goInt]) h
theorem o_len_nilmap {st k e : TypeId} {x : Operand} (hx : ev n f x = .map none) (hu : P.underlying st = some (.map k e))
    (h : wpList P ops Q rest (mk n (upd f d (.int .i64 0))) w) : wpList P ops Q (⟨some d, .call ⟨.builtin .len, #[x], #[st]⟩, t, p, af, none⟩ :: rest) (mk n f) w :=
  o_val rfl rfl (by simp [execOp, hx, resolve, invoke, builtin, Builtin.len_, run_underlying hu, goInt]) h
theorem o_max {k : IntKind} {tx ty : TypeId} {x y : Operand} {a b r : Int} (hx : ev n f x = .int k a) (hy : ev n f y = .int k b) (hr : max a b = r)
    (h : wpList P ops Q rest (mk n (upd f d (.int k r))) w) : wpList P ops Q (⟨some d, .call ⟨.builtin .max, #[x, y], #[tx, ty]⟩, t, p, af, none⟩ :: rest) (mk n f) w :=
  o_val rfl rfl (by
    have hm : max a b = (if b > a then b else a) := by omega
    subst hr; rw [hm]; simp [execOp, hx, hy, resolve, invoke, builtin, Builtin.max_, Builtin.max2]) h
theorem o_min {k : IntKind} {tx ty : TypeId} {x y : Operand} {a b r : Int} (hx : ev n f x = .int k a) (hy : ev n f y = .int k b) (hr : min a b = r)
    (h : wpList P ops Q rest (mk n (upd f d (.int k r))) w) : wpList P ops Q (⟨some d, .call ⟨.builtin .min, #[x, y], #[tx, ty]⟩, t, p, af, none⟩ :: rest) (mk n f) w :=
  o_val rfl rfl (by
    have hm : min a b = (if b < a then b else a) := by omega
    subst hr; rw [hm]; simp [execOp, hx, hy, resolve, invoke, builtin, Builtin.min_, Builtin.min2]) h

/-! Addresses. -/
theorem o_nil {x : Operand} {a : Addr} (hx : ev n f x = .pointer (some a)) (h : wpList P ops Q rest (mk n (upd f d (.pointer (some a)))) w) :
    wpList P ops Q (⟨some d, .nilCheck x, t, p, af, none⟩ :: rest) (mk n f) w := o_val rfl rfl (by simp [execOp, hx]) h
theorem o_faddr {s : TypeId} {fs : Array Field} {fld : Field} {x : Operand} {j sz : Nat} {a a' : Addr} (hx : ev n f x = .pointer (some a)) (hu : P.underlying s = some (.struct fs)) (hf : fs[j]? = some fld)
    (hs : ∀ w, (sizeOf fld.type).run P w = .ok (sz + 1) w) (ha : a.add fld.offset = a')
    (h : wpList P ops Q rest (mk n (upd f d (.pointer (some a')))) w) : wpList P ops Q (⟨some d, .fieldAddr s x j, t, p, af, none⟩ :: rest) (mk n f) w :=
  o_val rfl rfl (by subst ha; simp [execOp, hx, Instr.fieldAt, run_underlying hu, hf, Instr.sureAddr, fieldPlace, hs]) h
theorem o_iaddr_slice {st e : TypeId} {x y : Operand} {sz k : Nat} {i : Int} {a a' : Addr} {len cap : Nat} (hx : ev n f x = .slice (some a) len cap) (hy : ev n f y = .int .i64 i) (hi : i = (k : Int)) (hk : k < len)
    (hu : P.underlying st = some (.slice e)) (hs : ∀ w, (sizeOf e).run P w = .ok sz w) (ha : a.add (k * sz) = a')
    (h : wpList P ops Q rest (mk n (upd f d (.pointer (some a')))) w) : wpList P ops Q (⟨some d, .indexAddr st x y, t, p, af, none⟩ :: rest) (mk n f) w :=
  o_val rfl rfl (by
    subst ha; subst hi
    have h0 : 0 ≤ (k : Int) ∧ (k : Int) < (len : Int) := by omega
    simp [execOp, hx, hy, Instr.indexAt, asIntOf, run_underlying hu, hs, hk]) h
theorem o_iaddr_arr {st e : TypeId} {x y : Operand} {sz k len : Nat} {i : Int} {a a' : Addr} (hx : ev n f x = .pointer (some a)) (hy : ev n f y = .int .i64 i) (hi : i = (k : Int)) (hk : k < len)
    (hu : P.underlying st = some (.array len e)) (hs : ∀ w, (sizeOf e).run P w = .ok sz w) (ha : a.add (k * sz) = a')
    (h : wpList P ops Q rest (mk n (upd f d (.pointer (some a')))) w) : wpList P ops Q (⟨some d, .indexAddr st x y, t, p, af, none⟩ :: rest) (mk n f) w :=
  o_val rfl rfl (by
    subst ha; subst hi
    simp [execOp, hx, hy, Instr.indexAt, asIntOf, run_underlying hu, hs, hk, Instr.sureAddr]) h
/-- An element of one cell of an array that lies in a slot. -/
theorem o_index_arr {st e : TypeId} {x y : Operand} {k len : Nat} {i : Int} {cs : Array Value} {v : Value} (hx : ev n f x = .agg cs) (hy : ev n f y = .int .i64 i) (hi : i = (k : Int)) (hk : k < len)
    (hu : P.underlying st = some (.array len e)) (hs : ∀ w, (sizeOf e).run P w = .ok 1 w) (hagg : ∀ w, (isAgg e).run P w = .ok false w) (hv : cs[k]? = some v)
    (h : wpList P ops Q rest (mk n (upd f d v)) w) : wpList P ops Q (⟨some d, .index st x y, t, p, af, none⟩ :: rest) (mk n f) w :=
  o_val rfl rfl (by
    subst hi
    simp [execOp, hx, hy, Instr.index, asIntOf, run_underlying hu, hs, hk, part, hagg, hv]) h
/-- A field of one cell of a struct that lies in a slot. -/
theorem o_field1 {s : TypeId} {fs : Array Field} {fld : Field} {x : Operand} {j : Nat} {cs : Array Value} {v : Value} (hx : ev n f x = .agg cs) (hu : P.underlying s = some (.struct fs)) (hf : fs[j]? = some fld)
    (hagg : ∀ w, (isAgg fld.type).run P w = .ok false w) (hv : cs[fld.offset]? = some v)
    (h : wpList P ops Q rest (mk n (upd f d v)) w) : wpList P ops Q (⟨some d, .field s x j, t, p, af, none⟩ :: rest) (mk n f) w :=
  o_val rfl rfl (by simp [execOp, hx, Instr.field, run_underlying hu, hf, part, asAgg, hagg, hv]) h
theorem o_fieldA {s : TypeId} {fs : Array Field} {fld : Field} {x : Operand} {j sz : Nat} {cs : Array Value} {v : Array Value} (hx : ev n f x = .agg cs) (hu : P.underlying s = some (.struct fs)) (hf : fs[j]? = some fld)
    (hagg : ∀ w, (isAgg fld.type).run P w = .ok true w) (hs : ∀ w, (sizeOf fld.type).run P w = .ok sz w) (hv : cs.extract fld.offset (fld.offset + sz) = v)
    (h : wpList P ops Q rest (mk n (upd f d (.agg v))) w) : wpList P ops Q (⟨some d, .field s x j, t, p, af, none⟩ :: rest) (mk n f) w :=
  o_val rfl rfl (by subst hv; simp [execOp, hx, Instr.field, run_underlying hu, hf, part, asAgg, hagg, hs]) h
theorem o_extract {x : Operand} {j : Nat} {vs : Array Value} {v : Value} (hx : ev n f x = .tuple vs) (hv : vs[j]? = some v)
    (h : wpList P ops Q rest (mk n (upd f d v)) w) : wpList P ops Q (⟨some d, .extract x j, t, p, af, none⟩ :: rest) (mk n f) w :=
  o_val rfl rfl (by simp [execOp, hx, Instr.extract, hv]) h
theorem o_makefunc {fn : Fn} {a b : List Operand} {la lb : List Value} (ha : a.map (ev n f) = la) (hb : b.map (ev n f) = lb)
    (h : wpList P ops Q rest (mk n (upd f d (.func fn la.toArray lb.toArray))) w) : wpList P ops Q (⟨some d, .makeFunc fn a.toArray b.toArray, t, p, af, none⟩ :: rest) (mk n f) w :=
  o_val rfl rfl (by subst ha; subst hb; simp [execOp, Instr.makeFunc]) h

#print axioms o_cmp
#print axioms o_iaddr_slice
end Go.Fl
