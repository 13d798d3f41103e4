/- Leaves of the program does what its plain meaning says: a range over the keys of a map, whose rounds append, then a sort. Conditions: none. -/
import Derived.Test.YtkfcnibjlmiboaaShelf
import Derived.Test.YtkfcnibjlmiboaaFxView
import Derived.RangeFuncMany
import Derived.Sort.MapsRangeIn
import Derived.WalkKit
import Derived.OwnWalkIn
import Derived.TacticsInMore
import Derived.RegionIn
import Derived.LoopNIn
import Derived.LoopIn
import Derived.RangeFuncLeaves
import Derived.KernelRfl
import Derived.Shelf.SlIter.Collect
import Derived.Test.YtkfcnibjlmiboaaLwB
import Derived.Sort.OwnSortedInts
namespace Go.Dg5
open Go Go.Proofs Go.RowKit Go.Fl Go.Maps Go.Sort

abbrev ki : Int → Value := fun x => .int .i64 x
theorem leftOf_size (es : Array MapEntry) (s : Array Nat) : (leftOf es s).size = es.toList.countP fun e' => !s.contains e'.born := by
  unfold leftOf
  rw [← Array.length_toList, Array.toList_filter, List.countP_eq_length_filter]
theorem leftOf_push {es : Array MapEntry} {seen : Array Nat} {e : MapEntry} (he : e ∈ es.toList) (hs : e.born ∉ seen.toList) : (leftOf es (seen.push e.born)).size < (leftOf es seen).size := by
  rw [leftOf_size, leftOf_size]
  generalize es.toList = l at he
  have hle : ∀ l : List MapEntry, (l.countP fun e' => !(seen.push e.born).contains e'.born) ≤ l.countP fun e' => !seen.contains e'.born := fun l =>
    List.countP_mono_left fun x _ hx => by simp at hx ⊢; exact hx.1
  induction l with
  | nil => simp at he
  | cons x l ih =>
    rw [List.countP_cons, List.countP_cons]
    have hx := hle l
    rcases List.mem_cons.1 he with rfl | hm
    · have h1 : (!(seen.push e.born).contains e.born) = false := by simp
      have h2 : (!seen.contains e.born) = true := by simpa using hs
      rw [h1, h2]
      simp only [Bool.false_eq_true, if_false, if_true]
      omega
    · have := ih hm
      have hx1 : (!(seen.push e.born).contains x.born) = true → (!seen.contains x.born) = true := fun h => by simp at h ⊢; exact h.1
      cases h1 : (!(seen.push e.born).contains x.born) with
      | false => simp only [Bool.false_eq_true, if_false]; split <;> omega
      | true => rw [hx1 h1]; simp only [if_true]; omega
/-- What is left of a range. -/
def lft (w : World) (r : Nat) (es : Array MapEntry) : Nat :=
  match w.heap[r]? with
  | some (.mapIter _ _ seen _) => (leftOf es seen).size
  | _ => 0
theorem run_nextL {w : World} {r b clock : Nat} {es : Array MapEntry} {done : List Int} {cur : Option (Int × Value)} (hi : (itrK ki r b es clock done cur).ok w) (hb : w.heap[b]? = some (.map es clock)) (hK : KeysOf ki es.toList) (hM : MBk es.toList clock) (ty : TypeId) :
    ((∀ k v, lkK ki es.toList k = some v → k ∈ done) ∧ (Instr.next (.pointer (some ⟨r, 0, none⟩)) false ty).run Try.prog w = .ok (.tuple #[.bool false]) w) ∨
    ∃ k v w', lkK ki es.toList k = some v ∧ k ∉ done ∧ (Instr.next (.pointer (some ⟨r, 0, none⟩)) false ty).run Try.prog w = .ok (.tuple #[.bool true, .int .i64 k, v]) w' ∧ Keeps [r] w w' ∧ (itrK ki r b es clock (k :: done) (some (k, v))).ok w' ∧ lft w' r es < lft w r es := by
  obtain ⟨seen, k1, k2, k3⟩ := hi
  have hold : ∀ x ∈ es.toList, x.born < clock := fun x hx => hM.2.2 _ (List.mem_map.2 ⟨x, hx, rfl⟩)
  have hmem : ∀ e, e ∈ (leftOf es seen).toList ↔ e ∈ es.toList ∧ e.born ∉ seen.toList := by intro e; simp [leftOf]
  rcases run_next_at (P := Try.prog) w ty r b clock clock seen es clock k1 hb hold (Nat.le_refl _) with ⟨hz, hr⟩ | ⟨e, he, w1, hw, hr⟩
  · refine .inl ⟨fun k v hk => ?_, hr⟩
    obtain ⟨e, he, hek, _⟩ := (lkK_iff hM.1 k v).1 hk
    have hin : e.born ∈ seen.toList := by
      rcases Classical.em (e.born ∈ seen.toList) with hh | hh
      · exact hh
      · exfalso
        have := (hmem e).2 ⟨he, hh⟩
        rw [Array.eq_empty_of_size_eq_zero hz] at this
        simp at this
    obtain ⟨k', hk', e'⟩ := (k2 e he).1 hin
    have : ki k = ki k' := hek.symm.trans e'
    simp only [ki, Value.int.injEq, true_and] at this
    rw [this]; exact hk'
  · obtain ⟨hes, hns⟩ := (hmem e).1 he
    obtain ⟨k, hk⟩ := hK e hes
    have hlt : r < w.heap.size := (Array.getElem?_eq_some_iff.1 k1).1
    have hheap : w1.heap = w.heap := by rcases hw with rfl | rfl <;> rfl
    rw [hk] at hr
    have hnew : (ChangeMaps.setBlock w1 r (.mapIter (some b) clock (seen.push e.born) clock)).heap[r]? = some (.mapIter (some b) clock (seen.push e.born) clock) := by
      show (w1.heap.setIfInBounds r _)[r]? = _
      rw [Array.getElem?_setIfInBounds, if_pos rfl, hheap, if_pos hlt]
    refine .inr ⟨k, e.val, _, (lkK_iff hM.1 k e.val).2 ⟨e, hes, hk, rfl⟩, fun hd => hns ((k2 e hes).2 ⟨k, hd, hk⟩), hr, ⟨?_, ?_, ?_, ?_, fun j hj hm => ?_⟩, ⟨seen.push e.born, hnew, fun e' he' => ?_, fun kv hkv => ?_⟩, ?_⟩
    · rcases hw with rfl | rfl <;> rfl
    · rcases hw with rfl | rfl <;> rfl
    · rcases hw with rfl | rfl <;> rfl
    · simp [ChangeMaps.setBlock, hheap]
    · show (w1.heap.setIfInBounds r _)[j]? = _
      rw [Array.getElem?_setIfInBounds, if_neg (by intro e; exact hm (by simp [e])), hheap]
    · rw [Array.toList_push, List.mem_append, k2 e' he', List.mem_singleton]
      constructor
      · rintro (⟨q, h1, h2⟩ | hb)
        · exact ⟨q, by simp [h1], h2⟩
        · have h5 := find_born e es.toList hM.2.1 hes
          have h6 := find_born e' es.toList hM.2.1 he'
          rw [hb, h5] at h6
          cases h6
          exact ⟨k, by simp, hk⟩
      · rintro ⟨q, h1, h2⟩
        rcases List.mem_cons.1 h1 with rfl | h1
        · right
          exact congrArg MapEntry.born (entry_eq_of_key' hM.1 he' hes (h2.trans hk.symm))
        · exact .inl ⟨q, h1, h2⟩
    · cases hkv
      exact ⟨seen, e, rfl, hes, hk, rfl⟩
    · unfold lft
      rw [hnew, k1]
      exact leftOf_push hes hns
variable {n : Nat} {ops : Array Oper} {Q : Exit → Act → World → Prop} {rest : List Oper} {o : Oper} {a : Act}
theorem in_range {F : Fence} {P : Program} {w : World} {b clock : Nat} {es : Array MapEntry} (hg : o.guard = none) {m : Operand} {t : TypeId} (hop : o.op = Op.range t m) {kt et : TypeId} (ht : P.underlying t = some (.map kt et)) (hm : a.eval m = .map (some b)) (hb : w.heap[b]? = some (.map es clock))
    (hK : wpListIn F n P ops Q rest (a.put o.dst (.pointer (some ⟨w.heap.size, 0, none⟩))) (w.alloc (.mapIter (some b) clock #[] clock))) : wpListIn F n P ops Q (o :: rest) a w := by
  refine wpListIn_plain hg fun K' hK' => ?_
  unfold Oper.wpIn
  refine ⟨by simp [Oper.about, hop], ?_⟩
  rw [Oper.semAt_plain F _ _ (by rw [hop]; intro c hc'; cases hc')]
  simp [execOp, hop, hm, Instr.range, Sem.run_bind, run_underlying ht, MapKept.run_getObj_map hb]
  exact hK' _ _ hK
theorem in_next {F : Fence} {w : World} {r b clock : Nat} {es : Array MapEntry} {done : List Int} {cur : Option (Int × Value)} (hg : o.guard = none) {it : Operand} (hop : o.op = Op.next it false) (hit : a.eval it = .pointer (some ⟨r, 0, none⟩))
    (hi : (itrK ki r b es clock done cur).ok w) (hb : w.heap[b]? = some (.map es clock)) (hK : KeysOf ki es.toList) (hM : MBk es.toList clock)
    (h0 : (∀ k v, lkK ki es.toList k = some v → k ∈ done) → wpListIn F n Try.prog ops Q rest (a.put o.dst (.tuple #[.bool false])) w)
    (h1 : ∀ k v w', lkK ki es.toList k = some v → k ∉ done → Keeps [r] w w' → (itrK ki r b es clock (k :: done) (some (k, v))).ok w' → lft w' r es < lft w r es → wpListIn F n Try.prog ops Q rest (a.put o.dst (.tuple #[.bool true, .int .i64 k, v])) w') :
    wpListIn F n Try.prog ops Q (o :: rest) a w := by
  refine wpListIn_plain hg fun K' hK' => ?_
  unfold Oper.wpIn
  refine ⟨by simp [Oper.about, hop], ?_⟩
  rw [Oper.semAt_plain F _ _ (by rw [hop]; intro c hc'; cases hc')]
  rcases run_nextL hi hb hK hM o.type with ⟨h2, hrun⟩ | ⟨k, v, w', h2, h3, hrun, h4, h5, h6⟩
  · simp [execOp, hop, hit, hrun, Result.andThen]
    exact hK' _ _ (h0 h2)
  · simp [execOp, hop, hit, hrun, Result.andThen]
    exact hK' _ _ (h1 k v w' h2 h3 h4 h5 h6)
theorem in_entry {F : Fence} {w : World} {r b clock : Nat} {es : Array MapEntry} {done : List Int} {k : Int} {v : Value} (hg : o.guard = none) {it : Operand} (hop : o.op = Op.entry it) (hit : a.eval it = .pointer (some ⟨r, 0, none⟩))
    (hi : (itrK ki r b es clock done (some (k, v))).ok w) (hb : w.heap[b]? = some (.map es clock)) (hM : MBk es.toList clock)
    (h : wpListIn F n Try.prog ops Q rest (a.put o.dst (.tuple #[.int .i64 k, v])) w) : wpListIn F n Try.prog ops Q (o :: rest) a w := by
  refine wpListIn_plain hg fun K' hK' => ?_
  unfold Oper.wpIn
  refine ⟨by simp [Oper.about, hop], ?_⟩
  rw [Oper.semAt_plain F _ _ (by rw [hop]; intro c hc'; cases hc')]
  obtain ⟨seen, k1, k2, k3⟩ := hi
  obtain ⟨s0, e, rfl, he, hk, hv⟩ := k3 _ rfl
  have hrun := run_entry_at (P := Try.prog) w r b clock s0 es clock e k1 hb he hM.2.1
  rw [hk, hv] at hrun
  simp [execOp, hop, hit, hrun, Result.andThen]
  exact hK' _ _ h
end Go.Dg5
namespace Go.Dg5
open Go Go.Proofs Go.RowKit Go.Fl Go.Maps Go.Sort
set_option maxRecDepth 100000 in
set_option maxHeartbeats 1000000 in
/-- The keys come, each once, whatever the rounds keep. -/
theorem keys1 (n : Nat) (hn : 1 ≤ n) (l Bm b clock : Nat) (es : Array MapEntry) (hK : KeysOf ki es.toList) (hM : MBk es.toList clock) (J : List Int → World → Prop) (W : World)
    (hJ : ∀ pre W1 W2, J pre W1 → W.heap.size < W1.heap.size ∨ W1 = W → Keeps [W.heap.size] W1 W2 → J pre W2) (hb : ∀ pre W1, J pre W1 → W1.heap[b]? = some (.map es clock))
    (hY : ∀ pre x W1, J pre W1 → W.heap.size < W1.heap.size → x ∉ pre → (lkK ki es.toList x).isSome = true → YieldAt Fence.wide (n - 1) Try.prog l #[.int .i64 x] W1 fun e W2 => e = .returned (.bool true) ∧ J (pre ++ [x]) W2 ∧ W2.heap[W.heap.size]? = W1.heap[W.heap.size]? ∧ W1.heap.size ≤ W2.heap.size)
    (hm : W.cell? ⟨Bm, 0, none⟩ = some (.map (some b))) (h0 : J [] W) :
    CallsIn Fence.wide n Try.prog 58 #[.func (.yield l) #[] #[], .pointer (some ⟨Bm, 0, none⟩)] W fun e W' => (∃ v, e = .returned v) ∧ ∃ ss : List Int, ss.Nodup ∧ (∀ k, k ∈ ss ↔ (lkK ki es.toList k).isSome = true) ∧ J ss W' := by
  refine callsIn_of_wp Try.func58 rfl trivial ?_ rfl
  simp only [Try.ntmps58, List.size_toArray, List.length_cons, List.length_nil, Nat.reduceAdd, Nat.reduceSub, Array.replicate_succ, Array.replicate_zero, List.push_toArray, List.append_toArray, List.nil_append, List.cons_append]
  gi_wp2_with (first
    | (gi_at_range; refine in_range rfl rfl (kt := 3) (et := 4) Try.underlying64 rfl (hb _ _ h0) ?_)
    | gi_in)
  have hsz : (W.alloc (.mapIter (some b) clock #[] clock)).heap.size = W.heap.size + 1 := by simp
  have hJ0 : J [] (W.alloc (.mapIter (some b) clock #[] clock)) := hJ _ _ _ h0 (.inr rfl) ((alloc_keeps W _).mono (by simp))
  have hi0 : (itrK ki W.heap.size b es clock [] none).ok (W.alloc (.mapIter (some b) clock #[] clock)) := ⟨#[], heap_alloc_new _ _, by simp, by simp⟩
  generalize W.alloc (.mapIter (some b) clock #[] clock) = W0 at hsz hJ0 hi0 ⊢
  go_frame
  gi_loopw [3] (fun _ wr => ∃ (done : List Int) (cur : Option (Int × Value)), (itrK ki W.heap.size b es clock done cur).ok wr ∧ done.Nodup ∧ (∀ k ∈ done, (lkK ki es.toList k).isSome = true) ∧ J done.reverse wr ∧ W.heap.size < wr.heap.size) (fun _ wr => lft wr W.heap.size es)
  case atStart => exact ⟨[], none, hi0, by simp, by simp, hJ0, by omega⟩
  case round =>
    obtain ⟨done, cur, hi, hnd, hin, hJr, hlt⟩ := hrel
    gi_wp2_with (first
      | (gi_at_next; refine in_next rfl rfl rfl hi (hb _ _ hJr) hK hM ?_ ?_)
      | gi_in)
    · intro hall
      gi_wp2
      go_end0
      exact ⟨⟨_, rfl⟩, done.reverse, by unfold List.Nodup; rw [List.pairwise_reverse]; exact hnd.imp (fun h => h.symm), fun k => by
        rw [List.mem_reverse]
        exact ⟨hin k, fun hk => by obtain ⟨v, hv⟩ := Option.isSome_iff_exists.1 hk; exact hall k v hv⟩, hJr⟩
    · intro k v w2 hk hkd hkeep hi2 hlft
      have hJ2 : J done.reverse w2 := hJ _ _ _ hJr (.inl hlt) hkeep
      have hlt2 : W.heap.size < w2.heap.size := Nat.lt_of_lt_of_le hlt hkeep.size
      obtain ⟨fn, tmps, assign, body, hy, hR⟩ := hY _ k w2 hJ2 hlt2 (by simpa using hkd) (by rw [hk]; rfl)
      gi_wp2_with (first
        | (refine in_entry rfl rfl rfl hi2 (hb _ _ hJ2) hM ?_)
        | gi_in)
      refine hR.mono ?_
      rintro e W3 ⟨rfl, hJ3, hr3, hs3⟩
      gi_wp2
      have hi3 : (itrK ki W.heap.size b es clock (k :: done) (some (k, v))).ok W3 := HObj.stay _ w2 W3 (fun q hq => by cases hq; exact hr3) hi2
      go_roundw
      case rel => exact ⟨k :: done, _, hi3, List.nodup_cons.2 ⟨hkd, hnd⟩, fun q hq => by
        rcases List.mem_cons.1 hq with rfl | hq
        · rw [hk]; rfl
        · exact hin q hq, by rw [List.reverse_cons]; exact hJ3, by omega⟩
      case measure => unfold lft at hlft ⊢; rw [hr3]; exact hlft
end Go.Dg5
namespace Go.Dg5
open Go Go.Proofs Go.RowKit Go.Fl Go.Maps Go.Sort

def lvAssign : Code := Code.region 3 #[{ dst := some 6, op := Op.assign (Operand.tmp 11), type := 3, pos := "diagram.go:181", after := #[], guard := none }] false
def lvBody : Code := Code.block 1 ((Code.region 4 #[{ dst := some 12, op := Op.move (Operand.tmp 6), type := 3, pos := "diagram.go:182", after := #[], guard := none },
  { dst := some 13, op := Op.binOp BinOp.lss 3 (Operand.tmp 12) (Operand.const (Value.int IntKind.i64 0)) 3, type := 4, pos := "diagram.go:182", after := #[{ on := 0, ground := Ground.data }], guard := none }] false).seq
  (Code.cond (Operand.tmp 13) (Code.region 5 #[{ dst := some 14, op := Op.load 37 (Operand.tmp 5), type := 37, pos := "diagram.go:183", after := #[], guard := none },
    { dst := some 15, op := Op.move (Operand.tmp 6), type := 3, pos := "diagram.go:183", after := #[], guard := none },
    { dst := some 16, op := Op.binOp BinOp.sub 3 (Operand.const (Value.int IntKind.i64 (-1))) (Operand.tmp 15) 3, type := 3, pos := "diagram.go:183", after := #[{ on := 1, ground := Ground.data }], guard := none },
    { dst := some 17, op := Op.buildSlice 37 1 #[(0, Operand.tmp 16)], type := 37, pos := "diagram.go:183", after := #[{ on := 2, ground := Ground.data }], guard := none },
    { dst := some 18, op := Op.call { callee := Callee.builtin Builtin.append, args := #[Operand.tmp 14, Operand.tmp 17], argTypes := #[37, 37] }, type := 37, pos := "diagram.go:183", after := #[{ on := 0, ground := Ground.data }, { on := 3, ground := Ground.data }], guard := none },
    { dst := none, op := Op.store 37 (Operand.tmp 5) (Operand.tmp 18), type := 0, pos := "diagram.go:183", after := #[{ on := 4, ground := Ground.data }, { on := 4, ground := Ground.chain }, { on := 0, ground := Ground.phase }, { on := 1, ground := Ground.phase }, { on := 2, ground := Ground.phase }, { on := 3, ground := Ground.phase }, { on := 4, ground := Ground.phase }], guard := none }] false) Code.skip))
/-- The loop's record. -/
def lvRec (fn : FuncId) (v0 v1 sv m : Value) (Bs D : Nat) (st : LoopState) (pend : Option Code) : Loop :=
  { state := st, pending := pend, fn, tmps := #[v0, v1, undef, undef, .slice none 0 0, .pointer (some ⟨Bs, 0, none⟩), undef, v0, v1, m, sv, undef, undef, undef, undef, undef, undef, undef, undef, undef, undef, undef], params := #[11], assign := lvAssign, body := lvBody, defers := D }
def outL (ss : List Int) : List Int := (ss.filter fun x => decide (x < 0)).map fun x => -1 - x
/-- Between two rounds. -/
structure LvAt (w0 : World) (fn : FuncId) (v0 v1 sv m : Value) (Bs : Nat) (ss : List Int) (W : World) : Prop where
  box : ∃ v, W.heap[Bs]? = some (.cells #[v] 37 (0, 0)) ∧ W.ownsRow (w0.heap.size + 3) 3 1 v (outL ss).length ((outL ss).map ki)
  L : W.heap[w0.heap.size + 1]? = some (.loop (lvRec fn v0 v1 sv m Bs w0.heap.size .ready none))
  K : W.heap[w0.heap.size]? = some (.deferred (some []))
  keeps : Keeps [Bs] w0 W
theorem lv_put (W : World) (l : Nat) (o : Obj) : W.grownBy (W.putObj l o) (some l) :=
  ⟨rfl, rfl, rfl, by simp, fun k _ hk => World.putObj_heap_other (fun e => hk (by rw [e]))⟩
theorem lv_set (W : World) (b : Nat) (v : Value) : W.grownBy (W.setCell ⟨b, 0, none⟩ v) (some b) :=
  ⟨rfl, rfl, rfl, (KeepsWalks.setCell W _ v).size, fun k _ hk => Below.heap_setCell _ _ _ k (fun e => hk (by rw [e]))⟩
theorem lv_ne {W : World} {base : Nat} {e : TypeId} {size : Nat} {v : Value} {k : Nat} {xs : List Value} (h : W.ownsRow base e size v k xs) {j : Nat} {o : Obj} (hj : W.heap[j]? = some o) (hno : ∀ cur, o ≠ .cells cur e (0, 0)) :
    v.ownBlock = none ∨ v.ownBlock ≠ some j := by
  rcases h.2 with ⟨rfl, _⟩ | ⟨g, cap, cur, rfl, _, hgb, _⟩
  · exact .inl rfl
  · refine .inr fun e' => ?_
    have : g = j := by simpa [Value.ownBlock] using e'
    subst this; rw [hgb] at hj; cases hj; exact hno cur rfl
theorem lv_cell {W : World} {B : Nat} {v : Value} {t : TypeId} (h : W.heap[B]? = some (.cells #[v] t (0, 0))) : W.cell? ⟨B, 0, none⟩ = some v ∧ W.frozen? ⟨B, 0, none⟩ = false := by
  constructor <;> simp [World.cell?, World.frozen?, h]
theorem lv_setbox {W : World} {B : Nat} {v : Value} {t : TypeId} (v' : Value) (h : W.heap[B]? = some (.cells #[v] t (0, 0))) : (W.setCell ⟨B, 0, none⟩ v').heap[B]? = some (.cells #[v'] t (0, 0)) := by
  obtain ⟨hlt, hk⟩ := Array.getElem?_eq_some_iff.1 h
  show (W.heap.modify B _)[B]? = _
  rw [Array.getElem?_eq_getElem (by rw [Array.size_modify]; exact hlt), Array.getElem_modify_self, hk]
  rfl
theorem keeps_by {w w1 w2 : World} {M : List Nat} {row : Option Nat} (h : Keeps M w w1) (g : w1.grownBy w2 row) (hr : ∀ k, row = some k → k ∈ M ∨ w.heap.size ≤ k) : Keeps M w w2 :=
  ⟨g.os.trans h.os, g.tape.trans h.tape, g.output.trans h.output, Nat.le_trans h.size g.size, fun k hk hm => (g.block k (Nat.lt_of_lt_of_le hk h.size) (fun e => by
    rcases hr k e.symm with h1 | h1
    · exact hm h1
    · omega)).trans (h.block k hk hm)⟩
theorem outL_snoc (ss : List Int) (x : Int) : outL (ss ++ [x]) = if x < 0 then outL ss ++ [-1 - x] else outL ss := by
  unfold outL
  rw [List.filter_append, List.map_append]
  by_cases h : x < 0 <;> simp [h]
theorem outL_le (ss : List Int) : (outL ss).length ≤ ss.length := by unfold outL; rw [List.length_map]; exact List.length_filter_le _ _
set_option maxRecDepth 100000 in
set_option maxHeartbeats 2000000 in
theorem lvYield (w0 : World) (fn : FuncId) (v0 v1 sv m : Value) (Bs : Nat) (hB : Bs < w0.heap.size) (q : Nat) (ss : List Int) (x : Int) (W : World) (h : LvAt w0 fn v0 v1 sv m Bs ss W) (hlen : ss.length ≤ 4294967296) (hsz : w0.heap.size + 2 < W.heap.size) (hx : -9223372036854775808 ≤ x) (hx' : x ≤ 9223372036854775807) :
    YieldAt Fence.wide q Try.prog (w0.heap.size + 1) #[.int .i64 x] W fun e W' => e = .returned (.bool true) ∧ LvAt w0 fn v0 v1 sv m Bs (ss ++ [x]) W' ∧ W'.heap[w0.heap.size + 2]? = W.heap[w0.heap.size + 2]? ∧ W.heap.size ≤ W'.heap.size := by
  obtain ⟨v, hv, hrow⟩ := h.box
  refine ⟨fn, #[v0, v1, undef, undef, .slice none 0 0, .pointer (some ⟨Bs, 0, none⟩), undef, v0, v1, m, sv, .int .i64 x, undef, undef, undef, undef, undef, undef, undef, undef, undef, undef], lvAssign, lvBody, by simpa [lvRec] using run_yield (P := Try.prog) (args := #[.int .i64 x]) h.L rfl, roundIn_of_wpIn trivial ?_⟩
  have hl : w0.heap.size + 1 < W.heap.size := (Array.getElem?_eq_some_iff.1 h.L).1
  have hbr := run_beginRound (P := Try.prog) h.L rfl
  obtain ⟨W2, hW2⟩ : ∃ W2, W.putObj (w0.heap.size + 1) (.loop { lvRec fn v0 v1 sv m Bs w0.heap.size .ready none with state := .busy }) = W2 := ⟨_, rfl⟩
  rw [hW2] at hbr
  have hg2 : W.grownBy W2 (some (w0.heap.size + 1)) := by rw [← hW2]; exact lv_put _ _ _
  have hv2 : W2.heap[Bs]? = some (.cells #[v] 37 (0, 0)) := by rw [← hW2]; exact (World.putObj_heap_other (by omega)).trans hv
  have hK2 : W2.heap[w0.heap.size]? = some (.deferred (some [])) := by rw [← hW2]; exact (World.putObj_heap_other (by omega)).trans h.K
  have hL2 : W2.heap[w0.heap.size + 1]? = some (.loop { lvRec fn v0 v1 sv m Bs w0.heap.size .ready none with state := .busy }) := by rw [← hW2]; exact World.putObj_heap_same hl
  have hr2 : W2.heap[w0.heap.size + 2]? = W.heap[w0.heap.size + 2]? := by rw [← hW2]; exact World.putObj_heap_other (by omega)
  have hrow2 : W2.ownsRow (w0.heap.size + 3) 3 1 v (outL ss).length ((outL ss).map ki) := hrow.kept hg2 (lv_ne hrow h.L (fun cur e => by cases e))
  have hk2 : Keeps [Bs] w0 W2 := keeps_by h.keeps hg2 (fun k e => by cases e; right; omega)
  obtain ⟨hc2, hf2⟩ := lv_cell hv2
  have hBlt : Bs < W2.heap.size := (Array.getElem?_eq_some_iff.1 hv2).1
  have hl2 : w0.heap.size + 1 < W2.heap.size := (Array.getElem?_eq_some_iff.1 hL2).1
  have hs2 : W.heap.size ≤ W2.heap.size := hg2.size
  clear hW2
  unfold lvAssign
  gi_wp2_with (rw [Oper.semAt_eq _ _ _ (fun c h => by cases h)]; go_simp; try go_bits)
  obtain ⟨i0, hi⟩ : ∃ i, Try.prog.info? 3 = some i := Option.isSome_iff_exists.1 (by kernel_rfl)
  have hz0 : i0.zero = some (.int .i64 0) := by
    have e : (Try.prog.info? 3).bind (·.zero) = some (.int .i64 0) := by kernel_rfl
    rw [hi] at e; exact e
  have hz1 : i0.size = 1 := by
    have e : (Try.prog.info? 3).map (·.size) = some 1 := by kernel_rfl
    rw [hi] at e; exact Option.some.inj e
  have hz2 : i0.bytes = 8 := by
    have e : (Try.prog.info? 3).map (·.bytes) = some 8 := by kernel_rfl
    rw [hi] at e; exact Option.some.inj e
  have hol := outL_le ss
  have ne_of : ∀ {j : Nat} {o : Obj}, W2.heap[j]? = some o → (∀ cur, o ≠ .cells cur 3 (0, 0)) → some j ≠ v.ownBlock := fun hj hno => by
    rcases lv_ne hrow2 hj hno with e | e
    · rw [e]; simp
    · exact fun e' => e e'.symm
  unfold lvBody
  by_cases hneg : x < 0
  · gi_wp2_with (first
      | (gi_at_builtin; refine wpListIn_append_own _ rfl _ _ 37 rfl (w0.heap.size + 3) 3 i0 (.int .i64 0) 1 8 Try.underlying37 hi hz0 hz1 hz2 rfl (by decide) _ _ _ rfl (hrow2.alloc _) ⟨W2.heap.size, 0, none⟩ 1 1 [.int .i64 (-1 - x)] rfl rfl (cell_one_new _ _ _) (by simp [Value.oneCell']) (by unfold maxLen; omega) (by omega) (by simp; omega) ?_; intro v' w3 hown' hg3 hnil3
         have hv3 : w3.heap[Bs]? = some (.cells #[v] 37 (0, 0)) := (hg3.block Bs (by simp; omega) (ne_of hv2 (fun cur e => by cases e))).trans ((Below.heap_alloc _ _ Bs hBlt).trans hv2)
         obtain ⟨hc3, hf3⟩ := lv_cell hv3
         obtain ⟨g', cap', cur', rfl, hbase', hgb', hr1, hr3, hr4, hr5⟩ : ∃ g' cap' cur', v' = .slice (some ⟨g', 0, none⟩) ((outL ss).length + 1) cap' ∧ w0.heap.size + 3 ≤ g' ∧ w3.heap[g']? = some (.cells cur' 3 (0, 0)) ∧ (outL ss).length + 1 ≤ cap' ∧ cap' ≤ maxLen ∧ cur'.size = cap' * 1 ∧ cur'.toList.take (((outL ss).length + 1) * 1) = (outL ss).map ki ++ [.int .i64 (-1 - x)] := by
           rcases hown'.2 with ⟨_, h0⟩ | h'
           · exact absurd h0 (by omega)
           · exact h'
         go_frame)
      | (rw [Oper.semAt_eq _ _ _ (fun c h => by cases h)]; go_simp; try go_bits))
    have hg3' : (W2.alloc (.cells #[.int .i64 (-1 - x)] 3)).grownBy w3 v.ownBlock := hg3
    have hL3 : w3.heap[w0.heap.size + 1]? = some (.loop { lvRec fn v0 v1 sv m Bs w0.heap.size .ready none with state := .busy }) := (hg3'.block _ (by simp; omega) (ne_of hL2 (fun cur e => by cases e))).trans ((Below.heap_alloc _ _ _ hl2).trans hL2)
    have hK3 : w3.heap[w0.heap.size]? = some (.deferred (some [])) := (hg3'.block _ (by simp; omega) (ne_of hK2 (fun cur e => by cases e))).trans ((Below.heap_alloc _ _ _ (by omega)).trans hK2)
    have hk3 : Keeps [Bs] w0 w3 := keeps_by (w1 := W2.alloc (.cells #[.int .i64 (-1 - x)] 3)) ⟨hk2.os, hk2.tape, hk2.output, by have := hk2.size; simp; omega, fun k hk hm => (Below.heap_alloc _ _ k (Nat.lt_of_lt_of_le hk hk2.size)).trans (hk2.block k hk hm)⟩ hg3' (fun k e => .inr (by
      have := (hrow2.lt k e).1; omega))
    have hr3' : w3.heap[w0.heap.size + 2]? = W2.heap[w0.heap.size + 2]? := (hg3'.block _ (by simp; omega) (fun e => by
      have := (hrow2.lt _ e.symm).1; omega)).trans (Below.heap_alloc _ _ _ (by omega))
    have hs3 : W2.heap.size ≤ w3.heap.size := by have := hg3'.size; simp at this; omega
    obtain ⟨w4, hw4⟩ : ∃ w4, w3.setCell ⟨Bs, 0, none⟩ (.slice (some ⟨g', 0, none⟩) ((outL ss).length + 1) cap') = w4 := ⟨_, rfl⟩
    rw [hw4]
    have hg4 : w3.grownBy w4 (some Bs) := by rw [← hw4]; exact lv_set _ _ _
    have hv4 : w4.heap[Bs]? = some (.cells #[.slice (some ⟨g', 0, none⟩) ((outL ss).length + 1) cap'] 37 (0, 0)) := by rw [← hw4]; exact lv_setbox _ hv3
    have hL4 : w4.heap[w0.heap.size + 1]? = some (.loop { lvRec fn v0 v1 sv m Bs w0.heap.size .ready none with state := .busy }) := (hg4.block _ (Array.getElem?_eq_some_iff.1 hL3).1 (fun e => by cases e; omega)).trans hL3
    have hK4 : w4.heap[w0.heap.size]? = some (.deferred (some [])) := (hg4.block _ (Array.getElem?_eq_some_iff.1 hK3).1 (fun e => by cases e; omega)).trans hK3
    have hrow4 := hown'.kept hg4 (lv_ne hown' hv3 (fun cur e => by cases e))
    have hl4 : w0.heap.size + 1 < w4.heap.size := (Array.getElem?_eq_some_iff.1 hL4).1
    have hk4 : Keeps [Bs] w0 w4 := keeps_by hk3 hg4 (fun k e => by cases e; left; simp)
    have hr4' : w4.heap[w0.heap.size + 2]? = w3.heap[w0.heap.size + 2]? := hg4.block _ (by omega) (fun e => by cases e; omega)
    have hs4 : w3.heap.size ≤ w4.heap.size := hg4.size
    clear hw4
    refine ⟨_, _, run_endRound none hL4, rfl, ⟨⟨_, (World.putObj_heap_other (by omega)).trans hv4, ?_⟩, World.putObj_heap_same hl4, (World.putObj_heap_other (by omega)).trans hK4, keeps_by hk4 (lv_put _ _ _) (fun k e => by cases e; right; omega)⟩, ?_, ?_⟩
    · have := hrow4.kept (lv_put w4 (w0.heap.size + 1) (.loop { { lvRec fn v0 v1 sv m Bs w0.heap.size .ready none with state := .busy } with state := if (none : Option Code).isNone then .ready else .done, pending := none })) (lv_ne hrow4 hL4 (fun cur e => by cases e))
      rw [outL_snoc, if_pos hneg]
      simpa using this
    · rw [World.putObj_heap_other (by omega), hr4', hr3', hr2, Array.getElem?_eq_getElem hsz]
    · exact Nat.le_trans hs2 (Nat.le_trans hs3 (Nat.le_trans hs4 (lv_put _ _ _).size))
  · gi_wp2_with (rw [Oper.semAt_eq _ _ _ (fun c h => by cases h)]; go_simp; try go_bits)
    refine ⟨_, _, run_endRound none hL2, rfl, ⟨⟨_, (World.putObj_heap_other (by omega)).trans hv2, ?_⟩, World.putObj_heap_same hl2, (World.putObj_heap_other (by omega)).trans hK2, keeps_by hk2 (lv_put _ _ _) (fun k e => by cases e; right; omega)⟩, ?_, ?_⟩
    · have := hrow2.kept (lv_put W2 (w0.heap.size + 1) (.loop { { lvRec fn v0 v1 sv m Bs w0.heap.size .ready none with state := .busy } with state := if (none : Option Code).isNone then .ready else .done, pending := none })) (lv_ne hrow2 hL2 (fun cur e => by cases e))
      rw [outL_snoc, if_neg (show ¬ x < 0 by omega)]
      simpa using this
    · rw [World.putObj_heap_other (by omega), hr2, Array.getElem?_eq_getElem hsz]
    · exact Nat.le_trans hs2 (lv_put _ _ _).size
end Go.Dg5
namespace Go.Dg5
open Go Go.Proofs Go.RowKit Go.Fl Go.Fx Go.Maps Go.Sort

theorem keysIn (n : Nat) (mb : Option Nat) (w : World) : CallsIn Fence.wide n Try.prog 48 #[.map mb] w fun e w' => e = .returned (.func (.func 58) #[] #[.pointer (some ⟨w.heap.size, 0, none⟩)]) ∧ w' = w.alloc (.cells #[.map mb] 64) := by
  refine callsIn_of_wp Try.func48 rfl trivial ?_ rfl
  simp only [Try.ntmps48, List.size_toArray, List.length_cons, List.length_nil, Nat.reduceAdd, Nat.reduceSub, Array.replicate_succ, Array.replicate_zero, List.push_toArray, List.append_toArray, List.nil_append, List.cons_append]
  gi_wp2
  go_ret
  exact ⟨rfl, rfl⟩
/-- A sorted list of numbers. -/
def srtI (l : List Int) : List Int := l.mergeSort fun x y => decide (x ≤ y)
theorem sort_int {w : World} {v : Value} {base n : Nat} {l : List Int} (hr : w.ownsRow base 3 1 v n (l.map ki)) (hn : l.length = n) (hl : n < 4611686018427387904) :
    Calls Try.prog 50 #[v] w fun e w1 => e = .returned (.tuple #[]) ∧ w.grownBy w1 v.ownBlock ∧ w1.ownsRow base 3 1 v n ((srtI l).map ki) := by
  subst hn
  rcases hr.2 with ⟨rfl, h0⟩ | ⟨g, cap, cur, rfl, hb0, hb, h1, h2, h3, h4⟩
  · have : l = [] := List.eq_nil_of_length_eq_zero h0
    subst this
    refine (Try.slices_Sort_int_none none 0 w).mono ?_
    rintro e w1 ⟨rfl, rfl⟩
    exact ⟨rfl, ⟨rfl, rfl, rfl, Nat.le_refl _, fun k _ _ => rfl⟩, by simpa [srtI] using hr⟩
  · have hc := Try.slices_Sort_int g 0 cap l w (holds_of_blockI hb (by simpa using h4)) (Array.getElem?_eq_some_iff.1 hb).1 hl
    refine hc.mono ?_
    rintro e w1 ⟨rfl, q, os, rfl⟩
    exact ⟨rfl, grownBy_sortedI _, by
      have := ownsRow_sortedI (n := q) (os := os) (ss := l) (ts := l.mergeSort fun x y => decide (x ≤ y)) (by simp) hb0 hb h1 h2 h3
      exact this⟩
theorem srtI_asc {l : List Int} (h : l.Nodup) : (srtI l).Pairwise (· < ·) := by
  have h1 : (srtI l).Pairwise fun x y => decide (x ≤ y) = true := List.pairwise_mergeSort (fun a b c h1 h2 => by simp at h1 h2 ⊢; omega) (fun a b => by simp; omega) l
  have h2 : (srtI l).Nodup := (List.mergeSort_perm l _).nodup_iff.2 h
  exact (h1.and h2).imp fun ⟨a, b⟩ => by simp at a; omega
theorem outL_nodup {ss : List Int} (h : ss.Nodup) : (outL ss).Nodup := by
  unfold outL
  exact (List.pairwise_map.2 ((h.filter _).imp fun hab e => hab (by omega)))
theorem nodup_len {l l' : List Int} (h : l.Nodup) (hs : ∀ x ∈ l, x ∈ l') : l.length ≤ l'.length := by
  induction l generalizing l' with
  | nil => simp
  | cons a l ih =>
    rw [List.nodup_cons] at h
    have := ih (l' := l'.erase a) h.2 fun x hx => by
      have hne : x ≠ a := fun e => h.1 (e ▸ hx)
      exact (List.mem_erase_of_ne hne).2 (hs x (by simp [hx]))
    rw [List.length_erase_of_mem (hs a (by simp))] at this
    have hp := List.length_pos_of_mem (hs a (by simp))
    simp only [List.length_cons]
    omega
set_option maxRecDepth 100000 in
set_option maxHeartbeats 4000000 in
theorem h_pLeaves : Meets E_pSize.P E_pSize.D 30 (conV ([.ptr 55 [.own 47 C.node, .map C.node C.i64, .v], .v] : List (PK Sg)) ([.ptr 55 [.vec 47 C.node, .map C.node C.i64, .bool], .int .i64] : List (VT Sg)) ([.vec 3 C.i64] : List (VT Sg)) ([.ptr 55 [.vec 47 C.node, .map C.node C.i64, .bool], .same] : List (VT Sg)) fun a K => P_pLeaves a.1.1 a.1.2.1 a.1.2.2.1 a.2.1 (fun q0 q1 q2 q3 => K (q0, ()) ((q1, q2, q3, ()), (), ()))) := by
  intro args K hm w σ vals ins hL hS
  obtain ⟨a, ha, hm⟩ := optK_some hm
  have hargs := getL_putL ha
  subst hargs
  obtain ⟨⟨ns, ids, full, _⟩, id, _⟩ := a
  -- the contract of reach
  let K2 : List (Fx.Tr Sg) → List (Fx.Tr Sg) → Prop := fun rets outs => optK (getL ([.map C.i64 C.bool] : List (VT Sg)) rets) fun r => optK (getL ([.ptr 55 [.vec 47 C.node, .map C.node C.i64, .bool], .same] : List (VT Sg)) outs) fun o =>
    (∀ ks : List Int, Keys r.1 ks → Sml ks.length) ∧ (∀ x, (r.1 x).isSome = true → InI x) ∧ ∀ l : List Int, l.Pairwise (· < ·) → (∀ n, n ∈ l ↔ 0 ≤ n ∧ (r.1 (-1 - n)).isSome = true) → K [.vec 3 C.i64 l] outs
  have hreach := m_preach (putL ([.ptr 55 [.vec 47 C.node, .map C.node C.i64, .bool], .int .i64] : List (VT Sg)) ((ns, ids, full, ()), id, ())) K2 hm
  -- the arguments
  have hLL := hL
  cases hL with
  | @cons _ _ v0 _ m0 _ hp hr =>
  cases hr with
  | @cons _ _ v1 _ m1 _ h1 hn =>
  cases hn
  cases h1 with
  | f hi =>
  cases hi
  simp only [List.append_nil] at hS hLL ⊢
  have hS1 := new_block hS 37 #[.slice none 0 0]
  have hS1' := (hS1.perm (ms' := m0 ++ [blk w.heap.size 37 [.slice none 0 0]]) (by simpa using (List.perm_append_singleton _ _).symm)).inner
  have hcall : Calls Try.prog 49 #[v0, .int .i64 id] _ (Back D σ _ (putL ([.ptr 55 [.vec 47 C.node, .map C.node C.i64, .bool], .int .i64] : List (VT Sg)) ((ns, ids, full, ()), id, ())) [v0, .int .i64 id] m0 K2) := hreach _ σ [v0, .int .i64 id] m0 hLL hS1'
  change Calls Try.prog 30 #[v0, .int .i64 id] w (Back D σ w (putL ([.ptr 55 [.vec 47 C.node, .map C.node C.i64, .bool], .int .i64] : List (VT Sg)) ((ns, ids, full, ()), id, ())) [v0, .int .i64 id] m0 K)
  refine (callsIn_wide (n := 5)).1 (callsIn_of_wp_marks Try.func30 rfl trivial ?_ rfl)
  simp only [Try.ntmps30, List.size_toArray, List.length_cons, List.length_nil, Nat.reduceAdd, Nat.reduceSub, Array.replicate_succ, Array.replicate_zero, List.push_toArray, List.append_toArray, List.nil_append, List.cons_append]
  gi_wp2
  refine ⟨trivial, (callsIn_wide.2 hcall).mono ?_⟩
  rintro e w2 ⟨rets, outs, rv, σ2, msr, mso, rfl, hq0, hLr, hLT, hS2⟩
  obtain ⟨r, hr, hq1⟩ := optK_some hq0
  obtain ⟨o, ho, hq2⟩ := optK_some hq1
  clear hq0 hq1
  have er := getL_putL hr
  subst er
  obtain ⟨F, _⟩ := r
  cases hLr with
  | @cons _ _ vm _ mm _ hm1 hn1 =>
  cases hn1
  cases hm1 with
  | @map _ _ _ bm mfun hF =>
  simp only [retV]
  gi_wp2
  refine ⟨trivial, (keysIn _ (some bm) _).mono ?_⟩
  rintro e w3 ⟨rfl, rfl⟩
  gi_wp2
  refine wpIn_rangeFunc ?_
  intro fn hfn
  rw [show Fence.wide.round = none from rfl]
  -- what lies in memory
  have hS2a : St ⟨w, σ, feet m0⟩ w2 σ2 ((([smapK (kenc D C.i64) bm mfun] ++ []) ++ mso) ++ [blk w.heap.size 37 [.slice none 0 0]]) :=
    St.callM (ins := m0) (rest := [blk w.heap.size 37 [.slice none 0 0]]) (hS1.perm (by simpa using (List.perm_append_singleton _ _).symm)) hS2 rfl
  have hS3 := new_block hS2a 64 #[.map (some bm)]
  have hbox : (w2.alloc (.cells #[.map (some bm)] 64)).heap[w2.heap.size]? = some (.cells #[.map (some bm)] 64 (0, 0)) := heap_alloc_new _ _
  have hsz3 : (w2.alloc (.cells #[.map (some bm)] 64)).heap.size = w2.heap.size + 1 := by simp
  generalize w2.alloc (.cells #[.map (some bm)] 64) = w3 at hS3 hbox hsz3 ⊢
  have hBs : w3.heap[w.heap.size]? = some (.cells #[.slice none 0 0] 37 (0, 0)) := hS3.own (blk w.heap.size 37 [.slice none 0 0]) (by simp)
  obtain ⟨es, clock, hes, hKs, hlk, hMB⟩ : (smapK ki bm mfun).ok w3 := hS3.own (smapK (kenc D C.i64) bm mfun) (by simp)
  have hBlt : w.heap.size < w3.heap.size := (Array.getElem?_eq_some_iff.1 hBs).1
  have hblt : bm < w3.heap.size := (Array.getElem?_eq_some_iff.1 hes).1
  have hne : bm ≠ w.heap.size := fun e => by rw [e, hBs] at hes; cases hes
  obtain ⟨hbound, hin, hfin⟩ := hq2
  have hFm : ∀ k, (lkK ki es.toList k).isSome = (F k).isSome := fun k => by rw [hlk k]; exact ORel.isSome (hF k)
  obtain ⟨ks, hksn, hks⟩ := keysK hKs hMB.1 (fun a b h => by simpa using h)
  have hksm : Sml ks.length := hbound ks ⟨hksn, fun k => by rw [hks k, hFm k]⟩
  obtain ⟨B, hB⟩ : ∃ B, (w3.alloc (.deferred (some []))).alloc (.loop (lvRec fn v0 (.int .i64 id) (.func (.func 58) #[] #[.pointer (some ⟨w2.heap.size, 0, none⟩)]) (.map (some bm)) w.heap.size w3.heap.size .ready none)) = B := ⟨_, rfl⟩
  have hold : ∀ k, k < w3.heap.size → B.heap[k]? = w3.heap[k]? := fun k hk => by
    rw [← hB]; exact (Below.heap_alloc _ _ k (by simp; omega)).trans (Below.heap_alloc _ _ k hk)
  have hBsz : B.heap.size = w3.heap.size + 2 := by rw [← hB]; simp
  have hBk : Keeps [] w3 B := by rw [← hB]; exact (alloc_keeps _ _).trans (alloc_keeps _ _)
  have hLv0 : LvAt w3 fn v0 (.int .i64 id) (.func (.func 58) #[] #[.pointer (some ⟨w2.heap.size, 0, none⟩)]) (.map (some bm)) w.heap.size [] B :=
    ⟨⟨_, (hold _ hBlt).trans hBs, ⟨rfl, .inl ⟨rfl, rfl⟩⟩⟩,
     by rw [← hB]; have := World.alloc_heap_new (w3.alloc (.deferred (some []))) (.loop (lvRec fn v0 (.int .i64 id) (.func (.func 58) #[] #[.pointer (some ⟨w2.heap.size, 0, none⟩)]) (.map (some bm)) w.heap.size w3.heap.size .ready none)); rwa [World.size_alloc] at this,
     by rw [← hB]; exact (Below.heap_alloc _ _ _ (by simp)).trans (World.alloc_heap_new w3 _), hBk.mono (by simp)⟩
  refine ⟨w3.heap.size + 1, [{ target := .collected w3.heap.size, args := #[] }], B, { target := .fn (.func 58) #[.pointer (some ⟨w2.heap.size, 0, none⟩)], args := #[.func (.yield (w3.heap.size + 1)) #[] #[]] }, B, 58,
    #[.func (.yield (w3.heap.size + 1)) #[] #[], .pointer (some ⟨w2.heap.size, 0, none⟩)], B, ?_, ?_, ?_, ?_, fun _ => by decide, ?_⟩
  · rw [← hB]; exact run_enterLoop_outer _ _ _ _ _
  · simp [resolve, go_sem]
  · intro f' h'; trivial
  · simp [invoke, go_sem]
  have hcomes := keys1 4 (by omega) (w3.heap.size + 1) w2.heap.size bm clock es hKs hMB (fun pre W => LvAt w3 fn v0 (.int .i64 id) (.func (.func 58) #[] #[.pointer (some ⟨w2.heap.size, 0, none⟩)]) (.map (some bm)) w.heap.size pre W ∧ pre.Nodup ∧ ∀ k ∈ pre, (lkK ki es.toList k).isSome = true) B
    (fun pre W1 W2 hJ _ hk => ?_) (fun pre W1 hJ => ?_) (fun pre x W1 hJ hlt hx hxs => ?_) (by simp [World.cell?, hold _ (show w2.heap.size < w3.heap.size by omega), hbox]) ⟨hLv0, by simp, by simp⟩
  · refine hcomes.mono ?_
    rintro e Wc ⟨⟨_, rfl⟩, ss, hssn, hss, hC, _, _⟩
    obtain ⟨v, hv, hrow⟩ := hC.box
    have hend := run_endLoop (P := Try.prog) hC.L (by simp [lvRec])
    obtain ⟨W5, hW5⟩ : ∃ W5, Wc.putObj (w3.heap.size + 1) (.loop { lvRec fn v0 (.int .i64 id) (.func (.func 58) #[] #[.pointer (some ⟨w2.heap.size, 0, none⟩)]) (.map (some bm)) w.heap.size w3.heap.size .ready none with state := .exhausted }) = W5 := ⟨_, rfl⟩
    rw [hW5] at hend
    have hg5 : Wc.grownBy W5 (some (w3.heap.size + 1)) := by rw [← hW5]; exact lv_put _ _ _
    have hv5 : W5.heap[w.heap.size]? = some (.cells #[v] 37 (0, 0)) := by rw [← hW5]; exact (World.putObj_heap_other (by omega)).trans hv
    have hK5 : W5.heap[w3.heap.size]? = some (.deferred (some [])) := by rw [← hW5]; exact (World.putObj_heap_other (by omega)).trans hC.K
    have hrow5 := hrow.kept hg5 (lv_ne hrow hC.L (fun cur e => by cases e))
    have hk5 : Keeps [w.heap.size] w3 W5 := keeps_by hC.keeps hg5 (fun k e => by cases e; right; omega)
    obtain ⟨hc5, hf5⟩ := lv_cell hv5
    clear hW5
    have hlen : ss.length ≤ ks.length := nodup_len hssn fun x hx => (hks x).2 ((hss x).1 hx)
    have hol := outL_le ss
    have hsml : ks.length ≤ 4294967296 := hksm
    refine ⟨none, W5, hend, ?_⟩
    gi_wp2
    refine ⟨trivial, (callsIn_wide.2 (sort_int hrow5 rfl (by omega))).mono ?_⟩
    rintro e W6 ⟨rfl, hg6, hrow6⟩
    have ne_of : ∀ {j : Nat} {o : Obj}, W5.heap[j]? = some o → (∀ cur, o ≠ .cells cur 3 (0, 0)) → some j ≠ v.ownBlock := fun hj hno => by
      rcases lv_ne hrow5 hj hno with e | e
      · rw [e]; simp
      · exact fun e' => e e'.symm
    have hv6 : W6.heap[w.heap.size]? = some (.cells #[v] 37 (0, 0)) := (hg6.block _ (Array.getElem?_eq_some_iff.1 hv5).1 (ne_of hv5 (fun cur e => by cases e))).trans hv5
    have hK6 : W6.heap[w3.heap.size]? = some (.deferred (some [])) := (hg6.block _ (Array.getElem?_eq_some_iff.1 hK5).1 (ne_of hK5 (fun cur e => by cases e))).trans hK5
    have hk6 : Keeps [w.heap.size] w3 W6 := keeps_by hk5 hg6 (fun k e => .inr (by have := (hrow5.lt k e).1; omega))
    obtain ⟨hc6, hf6⟩ := lv_cell hv6
    gi_wp2
    rw [← hsz3]
    refine ⟨by simp, .inl ⟨_, _, rfl, run_takeDeferred hK6, ?_⟩⟩
    refine ⟨_, results_tmp rfl _ _ _, ?_⟩
    obtain ⟨W7, hW7⟩ : ∃ W7, W6.putObj w3.heap.size (.deferred none) = W7 := ⟨_, rfl⟩
    rw [hW7]
    have hg7 : W6.grownBy W7 (some w3.heap.size) := by rw [← hW7]; exact lv_put _ _ _
    have hk7 : Keeps [w.heap.size] w3 W7 := keeps_by hk6 hg7 (fun k e => by cases e; right; omega)
    have hrow7 := hrow6.kept hg7 (lv_ne hrow6 hK6 (fun cur e => by cases e))
    clear hW7
    have hnl : (srtI (outL ss)).length = (outL ss).length := by simp [srtI]
    have hE : Els D σ2 C.i64 ((srtI (outL ss)).map ki) (srtI (outL ss)) := by
      refine ⟨by show _ = (srtI (outL ss)).length * 1; simp, fun i x hx => ?_⟩
      have hxx : (((srtI (outL ss)).map ki).drop (i * 1)).take 1 = [ki x] := by
        rw [Nat.mul_one]
        have h1 : ((srtI (outL ss)).map ki)[i]? = some (ki x) := by rw [List.getElem?_map, hx]; rfl
        rw [List.take_one, List.head?_drop, h1]
        rfl
      refine ⟨by show ((((srtI (outL ss)).map ki).drop (i * 1)).take 1).length = 1; rw [hxx]; rfl, fun j v s hj hs => ?_⟩
      have hj : [ki x][j]? = some v := by rw [← hxx]; exact hj
      match j with
      | 0 => cases hj; cases hs; exact .int _ _
      | j + 1 => cases hj
    have hvec : (vec v 3 (D.size C.i64) (srtI (outL ss)).length ((srtI (outL ss)).map ki)).ok W7 := by
      rw [hnl]
      show World.ownsRow _ 0 3 1 v (outL ss).length _
      rcases hrow7 with ⟨h1, h2⟩
      exact ⟨h1, h2.imp (fun h => h) fun ⟨g, cap, cur, e1, _, e3⟩ => ⟨g, cap, cur, e1, Nat.zero_le _, e3⟩⟩
    have hfoot : ∀ k, (vec v 3 (D.size C.i64) (srtI (outL ss)).length ((srtI (outL ss)).map ki)).foot = some k → w3.heap.size ≤ k := fun k hk => by
      have := (hrow7.lt k hk).1
      omega
    have hS4 := hS3.step (i := mso.length + 2) (o := blk w.heap.size 37 [.slice none 0 0]) (o' := vec v 3 (D.size C.i64) (srtI (outL ss)).length ((srtI (outL ss)).map ki)) (ms' := (blk w2.heap.size 64 [.map (some bm)] :: ([smapK (kenc D C.i64) bm mfun] ++ [] ++ mso)) ++ [vec v 3 (D.size C.i64) (srtI (outL ss)).length ((srtI (outL ss)).map ki)])
      (by simp) hk7 hvec (fun k hk => .inr (hfoot k hk)) (by simp) hS3.view.none_of_ge
    have hS5 : St ⟨w, σ, feet m0⟩ W7 σ2 ([vec v 3 (D.size C.i64) (srtI (outL ss)).length ((srtI (outL ss)).map ki)] ++ mso) := by
      have h1 := hS4.perm (ms' := [blk w2.heap.size 64 [.map (some bm)], smapK (kenc D C.i64) bm mfun] ++ ([vec v 3 (D.size C.i64) (srtI (outL ss)).length ((srtI (outL ss)).map ki)] ++ mso)) (by simp)
      exact h1.sublist (List.sublist_append_right _ _)
    refine ⟨[.vec 3 C.i64 (srtI (outL ss))], outs, [v], σ2, [vec v 3 (D.size C.i64) (srtI (outL ss)).length ((srtI (outL ss)).map ki)], mso, rfl, ?_, ?_, hLT, hS5⟩
    · refine hfin _ (srtI_asc (outL_nodup hssn)) fun n => ?_
      have e1 : n ∈ srtI (outL ss) ↔ n ∈ outL ss := (List.mergeSort_perm _ _).mem_iff
      rw [e1]
      unfold outL
      simp only [List.mem_map, List.mem_filter, decide_eq_true_eq]
      constructor
      · rintro ⟨x, ⟨h1, h2⟩, rfl⟩
        refine ⟨by omega, ?_⟩
        rw [show -1 - (-1 - x) = x by omega, ← hFm]
        exact (hss x).1 h1
      · rintro ⟨h1, h2⟩
        exact ⟨-1 - n, ⟨(hss _).2 (by rw [hFm]; exact h2), by omega⟩, by omega⟩
    · exact .cons (ms' := []) (.vec hE (by rw [hnl]; omega) (vec_one hvec)) .nil
  · obtain ⟨hJ, hn1, hn2⟩ := hJ
    have hg : W1.grownBy W2 (some B.heap.size) := ⟨hk.os, hk.tape, hk.output, hk.size, fun k hlt hne => hk.block k hlt (fun e => hne (by simp at e; rw [e]))⟩
    obtain ⟨v, hv, hrow⟩ := hJ.box
    refine ⟨⟨⟨v, (hg.block _ (Array.getElem?_eq_some_iff.1 hv).1 (fun e => by have := Option.some.inj e; omega)).trans hv, hrow.kept hg ?_⟩, (hg.block _ (Array.getElem?_eq_some_iff.1 hJ.L).1 (fun e => by
      have := Option.some.inj e; omega)).trans hJ.L, (hg.block _ (Array.getElem?_eq_some_iff.1 hJ.K).1 (fun e => by
      have := Option.some.inj e; omega)).trans hJ.K, keeps_by hJ.keeps hg (fun k e => by
      have := Option.some.inj e; right; omega)⟩, hn1, hn2⟩
    rcases hrow.2 with ⟨rfl, _⟩ | ⟨g, cap, cur, rfl, hge, _⟩
    · exact .inl rfl
    · refine .inr fun e => ?_
      have : g = B.heap.size := by simpa [Value.ownBlock] using e
      omega
  · exact (hJ.1.keeps.block bm hblt (by simpa using hne)).trans hes
  · have hxF : InI x := hin x (by rw [← hFm]; exact hxs)
    obtain ⟨hJ, hn1, hn2⟩ := hJ
    have hlen : pre.length ≤ ks.length := nodup_len hn1 fun y hy => (hks y).2 (hn2 y hy)
    have hsml : ks.length ≤ 4294967296 := hksm
    have hy := lvYield w3 fn v0 (.int .i64 id) (.func (.func 58) #[] #[.pointer (some ⟨w2.heap.size, 0, none⟩)]) (.map (some bm)) w.heap.size hBlt (4 - 1) pre x W1 hJ (by omega) (by omega) hxF.1 hxF.2
    obtain ⟨fn', tmps, assign, body, h1, h2⟩ := hy
    refine ⟨fn', tmps, assign, body, h1, h2.mono fun e W2 h => ⟨h.1, ⟨h.2.1, ?_, fun k hk => ?_⟩, by rw [hBsz]; exact h.2.2.1, h.2.2.2⟩⟩
    · rw [List.nodup_append]
      exact ⟨hn1, by simp, fun a ha b hb e => hx (by simp at hb; rw [← hb, ← e]; exact ha)⟩
    · rcases List.mem_append.1 hk with hk | hk
      · exact hn2 k hk
      · simp at hk; rw [hk]; exact hxs
end Go.Dg5
