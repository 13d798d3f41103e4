/- How data of a program read in a view of the heap; small rules of control. Conditions: none. -/
import Derived.Test.YtkfcnibjlmiboaaFlMem
namespace Go.Fl
open Go Go.RowKit

variable {P : Program} {Q : Exit → Act → World → Prop} {n : Nat} {f : Fr} {w : World} {σ τ : Hv}

theorem then_n {K : Act → World → Prop} {a : Act} (h : K a w) : Exit.then K Q .normal a w := h
theorem then_e {K : Act → World → Prop} {a : Act} {i : Nat} (h : Q (.exit i) a w) : Exit.then K Q (.exit i) a w := h
theorem then_r {K : Act → World → Prop} {a : Act} (h : Q .ret a w) : Exit.then K Q .ret a w := h
theorem blk_n {a : Act} {i : Nat} (h : Q .normal a w) : Exit.inBlock i Q .normal a w := h
theorem blk_r {a : Act} {i : Nat} (h : Q .ret a w) : Exit.inBlock i Q .ret a w := h
theorem blk_hit {a : Act} {i : Nat} (h : Q .normal a w) : Exit.inBlock i Q (.exit i) a w := by simp only [Exit.inBlock, if_true]; exact h
theorem blk_miss {a : Act} {i j : Nat} (hne : Nat.beq j i = false) (h : Q (.exit j) a w) : Exit.inBlock i Q (.exit j) a w := by
  have : j ≠ i := fun e => by subst e; simp at hne
  simp only [Exit.inBlock, if_neg this]; exact h
theorem if_nd {c : Operand} {x y : Code} (p : Prop) [Decidable p] (hc : ev n f c = .bool (!decide p)) (ht : ¬ p → x.wp P Q (mk n f) w) (hf : p → y.wp P Q (mk n f) w) :
    (Code.cond c x y).wp P Q (mk n f) w := by
  by_cases h : p
  · exact if_f (by rw [hc, decide_eq_true h]; rfl) (hf h)
  · exact if_t (by rw [hc, decide_eq_false h]; rfl) (ht h)
theorem if_nb {c : Operand} {x y : Code} {b : Bool} (hc : ev n f c = .bool (!b)) (ht : b = false → x.wp P Q (mk n f) w) (hf : b = true → y.wp P Q (mk n f) w) :
    (Code.cond c x y).wp P Q (mk n f) w := by
  cases b
  · exact if_t hc (ht rfl)
  · exact if_f hc (hf rfl)

theorem View.sub {h : Sub σ τ} (v : View τ w) : View σ w := fun b o hb => v b o (h b o hb)
theorem View.of (h : Sub σ τ) (v : View τ w) : View σ w := fun b o hb => v b o (h b o hb)

/-- A slice whose elements take 'size' cells each and read as R says. -/
def RSl {α : Type} (size : Nat) (R : Hv → List Value → α → Prop) (σ : Hv) (v : Value) (l : List α) : Prop :=
  ∃ a cap, v = .slice a l.length cap ∧ l.length ≤ cap ∧ l.length ≤ 140737488355328 ∧
    ∀ (i : Nat) x, l[i]? = some x → ∃ ad cs, a = some ad ∧ cs.length = size ∧ VRow σ (ad.add (i * size)) cs ∧ R σ cs x

theorem RSl.mono {α : Type} {size : Nat} {R : Hv → List Value → α → Prop} (hR : ∀ {σ τ : Hv} {cs x}, Sub σ τ → R σ cs x → R τ cs x) {v : Value} {l : List α} (hs : Sub σ τ) (h : RSl size R σ v l) : RSl size R τ v l := by
  obtain ⟨a, cap, h1, h2, h3, h4⟩ := h
  refine ⟨a, cap, h1, h2, h3, fun i x hx => ?_⟩
  obtain ⟨ad, cs, e1, e2, e3, e4⟩ := h4 i x hx
  exact ⟨ad, cs, e1, e2, e3.mono hs, hR hs e4⟩

theorem RSl.nil {α : Type} {size : Nat} {R : Hv → List Value → α → Prop} : RSl size R σ (.slice none 0 0) [] :=
  ⟨none, 0, rfl, Nat.le_refl _, by simp, fun i x hx => by simp at hx⟩

/-- What an owned slice holds, once it has joined the view. -/
theorem RSl.ofVec {α : Type} {size T : Nat} {R : Hv → List Value → α → Prop} {v : Value} {k : Nat} {xs : List Value} {l : List α} (h : (vec v T size k xs).ok w)
    (hs : ∀ b, v.ownBlock = some b → σ b = w.heap[b]?) (hk : l.length = k) (hcap : k ≤ 140737488355328)
    (hR : ∀ (i : Nat) x, l[i]? = some x → ((xs.drop (i * size)).take size).length = size ∧ R σ ((xs.drop (i * size)).take size) x) : RSl size R σ v l := by
  subst hk
  rcases (vec_shape h).2 with ⟨rfl, h0⟩ | ⟨g, cap, rfl, h1, h2⟩
  · have : l = [] := List.eq_nil_of_length_eq_zero h0
    subst this
    exact RSl.nil
  · refine ⟨_, cap, rfl, h1, hcap, fun i x hx => ⟨_, _, rfl, (hR i x hx).1, ?_, (hR i x hx).2⟩⟩
    have hrow : VRow σ ⟨g, 0, none⟩ xs := by
      intro j u hj
      have hc := vec_row h j u hj
      rw [addr_lit] at hc ⊢
      unfold Hv.cell
      rw [hs g rfl]
      exact hc
    exact hrow.part rfl

theorem take_snoc {α : Type} {l : List α} {k : Nat} {x : α} (h : l[k]? = some x) : l.take (k + 1) = l.take k ++ [x] := by
  rw [List.take_add_one, h]; rfl
theorem getq {α : Type} {l : List α} {k : Nat} (h : k < l.length) : ∃ x, l[k]? = some x := ⟨_, List.getElem?_eq_getElem h⟩
theorem lt_of_getq {α : Type} {l : List α} {k : Nat} {x : α} (h : l[k]? = some x) : k < l.length := (List.getElem?_eq_some_iff.1 h).1

theorem tmod_nat (x : Nat) {m : Int} (h : 1 ≤ m) : ∃ r : Nat, ((x : Nat) : Int).tmod m = ((r : Nat) : Int) ∧ ((r : Nat) : Int) < m := by
  have h1 := Int.tmod_nonneg m (show (0 : Int) ≤ (x : Int) from by omega)
  have h2 := Int.tmod_lt_of_pos (x : Int) (show 0 < m from by omega)
  exact ⟨(((x : Nat) : Int).tmod m).toNat, by omega, by omega⟩

/-- A byte. -/
def RU8 (_ : Hv) (cs : List Value) (x : UInt8) : Prop := cs = [.int .u8 ((x.toNat : Nat) : Int)]
/-- A list of choices, k of them taken. -/
def cod (T : TypeId) (σ : Hv) (b len k : Nat) : HObj where
  foot := some b
  ok w := ∃ v l, l.length = len ∧ RSl 1 RU8 σ v l ∧ k ≤ len ∧ w.heap[b]? = some (.cells #[v, .int .i64 ((k : Nat) : Int)] T (0, 0))
  stay w w' h hk := by
    obtain ⟨v, l, h1, h2, h3, h4⟩ := hk
    exact ⟨v, l, h1, h2, h3, (h b rfl).trans h4⟩
  lt w k hk hf := by
    obtain ⟨v, l, h1, h2, h3, h4⟩ := hk
    cases hf; exact lt_of_block h4

/-- Elements without memory of their own: their cells are a function of them. -/
def REnc {α : Type} (enc : α → List Value) : Hv → List Value → α → Prop := fun _ cs x => cs = enc x
theorem REnc.mono {α : Type} {enc : α → List Value} {σ τ : Hv} {cs : List Value} {x : α} (_ : Sub σ τ) (h : REnc enc σ cs x) : REnc enc τ cs x := h
theorem RSl.shape {α : Type} {size : Nat} {R : Hv → List Value → α → Prop} {v : Value} {l : List α} (h : RSl size R σ v l) : ∃ a cap, v = .slice a l.length cap := by
  obtain ⟨a, cap, h1, _⟩ := h; exact ⟨a, cap, h1⟩
theorem RSl.menc {α : Type} {size : Nat} {enc : α → List Value} {σ τ : Hv} {v : Value} {l : List α} (hs : Sub σ τ) (h : RSl size (REnc enc) σ v l) : RSl size (REnc enc) τ v l := h.mono (fun _ h => h) hs
theorem flat_at {α : Type} {enc : α → List Value} {size : Nat} (he : ∀ x, (enc x).length = size) : ∀ {l : List α} {i : Nat} {x : α}, l[i]? = some x → ((l.flatMap enc).drop (i * size)).take size = enc x
  | [], _, _, h => by simp at h
  | a :: l, 0, x, h => by
    simp at h; subst h
    simp only [Nat.zero_mul, List.drop_zero, List.flatMap_cons]
    rw [List.take_append_of_le_length (by rw [he]; exact Nat.le_refl _), List.take_of_length_le (by rw [he]; exact Nat.le_refl _)]
  | a :: l, i + 1, x, h => by
    simp only [List.getElem?_cons_succ] at h
    simp only [List.flatMap_cons]
    rw [Nat.add_mul, Nat.one_mul, Nat.add_comm, ← List.drop_drop, List.drop_left' (he a)]
    exact flat_at he h
theorem flat_len {α : Type} {enc : α → List Value} {size : Nat} (he : ∀ x, (enc x).length = size) (l : List α) : (l.flatMap enc).length = l.length * size := by
  induction l with
  | nil => simp
  | cons a l ih => simp only [List.flatMap_cons, List.length_append, he, ih, List.length_cons, Nat.add_mul, Nat.one_mul]; omega
theorem flat_snoc {α : Type} {enc : α → List Value} (l : List α) (x : α) : l.flatMap enc ++ enc x = (l ++ [x]).flatMap enc := by simp
theorem RSl.ofVecEnc {α : Type} {size T : Nat} {enc : α → List Value} (he : ∀ x, (enc x).length = size) {v : Value} {k : Nat} {l : List α} (h : (vec v T size k (l.flatMap enc)).ok w)
    (hs : ∀ b, v.ownBlock = some b → σ b = w.heap[b]?) (hk : l.length = k) (hcap : k ≤ 140737488355328) : RSl size (REnc enc) σ v l :=
  RSl.ofVec h hs hk hcap fun i x hx => by rw [flat_at he hx]; exact ⟨he x, rfl⟩
/-- The first part of a slice reads as the first part. -/
theorem RSl.take {α : Type} {size : Nat} {R : Hv → List Value → α → Prop} {a : Option Addr} {len cap : Nat} {l : List α} (h : RSl size R σ (.slice a len cap) l) (k : Nat) (hk : k ≤ l.length) : RSl size R σ (.slice a k cap) (l.take k) := by
  obtain ⟨a', cap', h1, h2, h3, h4⟩ := h
  cases h1
  have hl : (l.take k).length = k := by simp; omega
  refine ⟨a, cap, by rw [hl], by omega, by omega, fun i x hx => ?_⟩
  refine h4 i x ?_
  rw [List.getElem?_take] at hx
  split at hx
  · exact hx
  · cases hx
/-- A great zero value is a row of one value, by a check that the kernel runs in little room. -/
def isRep (z : Value → Bool) : Nat → List Value → Bool
  | 0, [] => true
  | n + 1, v :: l => z v && isRep z n l
  | _, _ => false
theorem isRep_eq {z : Value → Bool} {v0 : Value} (hz : ∀ v, z v = true → v = v0) : ∀ {n : Nat} {l : List Value}, isRep z n l = true → l = List.replicate n v0
  | 0, [], _ => rfl
  | n + 1, v :: l, h => by
    simp only [isRep, Bool.and_eq_true] at h
    rw [hz v h.1, isRep_eq hz h.2]; rfl
  | 0, _ :: _, h => by simp [isRep] at h
  | _ + 1, [], h => by simp [isRep] at h
def zB : Value → Bool | .bool false => true | _ => false
theorem zB_eq (v : Value) (h : zB v = true) : v = .bool false := by
  cases v <;> simp [zB] at h
  rename_i b; cases b
  · rfl
  · simp at h
def zI : Value → Bool | .int .i64 (.ofNat 0) => true | _ => false
theorem zI_eq (v : Value) (h : zI v = true) : v = .int .i64 0 := by
  unfold zI at h
  split at h
  · rfl
  · cases h
def zcells : Option Value → List Value
  | some (.agg cs) => cs.toList
  | _ => []
theorem zero_rep {P : Program} {t : TypeId} {i : TypeInfo} {v0 : Value} {n : Nat} (hi : P.info? t = some i) (hl : zcells i.zero = List.replicate n v0) (hn : 0 < n) :
    ∀ w, (zeroValue t).run P w = .ok (.agg (List.replicate n v0).toArray) w := by
  intro w
  cases hz : i.zero with
  | none => rw [hz] at hl; have := congrArg List.length hl; simp [zcells] at this; omega
  | some v =>
    rw [hz] at hl
    cases v with
    | agg cs =>
      have : cs = (List.replicate n v0).toArray := by rw [← hl]; simp [zcells]
      subst this
      simp [zeroValue, typeInfo, hi, hz]
    | _ => have := congrArg List.length hl; simp [zcells] at this; omega
/-- Rows of truth values and of integers, given place by place. -/
def brow (N : Nat) (p : Nat → Bool) : List Value := (List.range N).map fun i => .bool (p i)
def irow (N : Nat) (p : Nat → Int) : List Value := (List.range N).map fun i => .int .i64 (p i)
theorem brow_len (N : Nat) (p : Nat → Bool) : (brow N p).length = N := by simp [brow]
theorem irow_len (N : Nat) (p : Nat → Int) : (irow N p).length = N := by simp [irow]
theorem brow_at {N j : Nat} {p : Nat → Bool} (h : j < N) : (brow N p)[j]? = some (.bool (p j)) := by simp [brow, h]
theorem irow_at {N j : Nat} {p : Nat → Int} (h : j < N) : (irow N p)[j]? = some (.int .i64 (p j)) := by simp [irow, h]
theorem brow_set {N j : Nat} {p : Nat → Bool} {b : Bool} (h : j < N) : splice (brow N p) j [.bool b] = brow N (fun i => if i = j then b else p i) := by
  rw [splice_one _ _ _ (by rw [brow_len]; exact h)]
  apply List.ext_getElem?
  intro i
  rw [List.getElem?_set, brow_len]
  by_cases hi : i < N
  · by_cases hj : j = i
    · subst hj; rw [if_pos rfl, if_pos h, brow_at h, if_pos rfl]
    · rw [if_neg hj, brow_at hi, brow_at hi, if_neg (fun e => hj e.symm)]
  · have e1 : (brow N p)[i]? = none := List.getElem?_eq_none (by rw [brow_len]; omega)
    have e2 : (brow N (fun i => if i = j then b else p i))[i]? = none := List.getElem?_eq_none (by rw [brow_len]; omega)
    rw [if_neg (by omega), e1, e2]
theorem irow_set {N j : Nat} {p : Nat → Int} {b : Int} (h : j < N) : splice (irow N p) j [.int .i64 b] = irow N (fun i => if i = j then b else p i) := by
  rw [splice_one _ _ _ (by rw [irow_len]; exact h)]
  apply List.ext_getElem?
  intro i
  rw [List.getElem?_set, irow_len]
  by_cases hi : i < N
  · by_cases hj : j = i
    · subst hj; rw [if_pos rfl, if_pos h, irow_at h, if_pos rfl]
    · rw [if_neg hj, irow_at hi, irow_at hi, if_neg (fun e => hj e.symm)]
  · have e1 : (irow N p)[i]? = none := List.getElem?_eq_none (by rw [irow_len]; omega)
    have e2 : (irow N (fun i => if i = j then b else p i))[i]? = none := List.getElem?_eq_none (by rw [irow_len]; omega)
    rw [if_neg (by omega), e1, e2]
theorem brow_congr {N : Nat} {p q : Nat → Bool} (h : ∀ i, i < N → p i = q i) : brow N p = brow N q := by
  simp only [brow]; exact List.map_congr_left fun i hi => by rw [h i (List.mem_range.1 hi)]
theorem irow_congr {N : Nat} {p q : Nat → Int} (h : ∀ i, i < N → p i = q i) : irow N p = irow N q := by
  simp only [irow]; exact List.map_congr_left fun i hi => by rw [h i (List.mem_range.1 hi)]
theorem brow_zero (N : Nat) : List.replicate N (Value.bool false) = brow N (fun _ => false) := by
  apply List.ext_getElem <;> simp [brow]
theorem irow_zero (N : Nat) : List.replicate N (Value.int .i64 0) = irow N (fun _ => 0) := by
  apply List.ext_getElem <;> simp [irow]

theorem splice_all {cs vs : List Value} (h : vs.length = cs.length) : splice cs 0 vs = vs := by
  simp [splice, h]
theorem brow_ones (N : Nat) (p : Nat → Bool) : ∀ u ∈ brow N p, u.oneCell' = true := by
  intro u hu
  obtain ⟨_, _, rfl⟩ := List.mem_map.1 hu
  rfl
theorem irow_ones (N : Nat) (p : Nat → Int) : ∀ u ∈ irow N p, u.oneCell' = true := by
  intro u hu
  obtain ⟨_, _, rfl⟩ := List.mem_map.1 hu
  rfl
/-- A block that has joined the view. -/
theorem vrow_blk {b T : Nat} {cs : List Value} (h : (blk b T cs).ok w) (hs : ∀ k, (blk b T cs).foot = some k → σ k = w.heap[k]?) : VRow σ ⟨b, 0, none⟩ cs := by
  intro j v hj
  have hb : σ b = some (.cells cs.toArray T (0, 0)) := (hs b rfl).trans h
  rw [addr_lit, Nat.zero_add]
  unfold Hv.cell
  rw [hb]
  simpa using hj
theorem RSl.ofBlk {α : Type} {enc : α → List Value} {size b n : Nat} {cs : List Value} {l : List α} (he : ∀ x, (enc x).length = size) (h : VRow σ ⟨b, 0, none⟩ cs) (hcs : cs = l.flatMap enc) (hn : l.length = n) (hcap : n ≤ 140737488355328) :
    RSl size (REnc enc) σ (.slice (some ⟨b, 0, none⟩) n n) l := by
  subst hn hcs
  exact ⟨_, l.length, rfl, Nat.le_refl _, hcap, fun i x hx => ⟨_, enc x, rfl, he x, h.part (o := i * size) (k := size) (flat_at he hx), rfl⟩⟩
/-- Pairs, each in two cells. -/
def RPair {α : Type} (R : Hv → Value → α → Prop) : Hv → List Value → α × α → Prop := fun σ cs x => ∃ v w, cs = [v, w] ∧ R σ v x.1 ∧ R σ w x.2
theorem rsl3 {α : Type} {size : Nat} {R : Hv → List Value → α → Prop} {b : Nat} {cs ds es : List Value} {x y z : α} (h : VRow σ ⟨b, 0, none⟩ (cs ++ ds ++ es)) (hl : cs.length = size) (hl2 : ds.length = size) (hl3 : es.length = size) (hR : R σ cs x) (hR2 : R σ ds y) (hR3 : R σ es z) :
    RSl size R σ (.slice (some ⟨b, 0, none⟩) 3 3) [x, y, z] := by
  refine ⟨_, 3, rfl, Nat.le_refl _, by simp, fun i u hu => ?_⟩
  match i, hu with
  | 0, hu =>
    simp at hu; subst hu
    exact ⟨_, cs, rfl, hl, h.part (o := 0 * size) (k := size) (by rw [Nat.zero_mul, List.drop_zero, List.append_assoc, List.take_left' hl]), hR⟩
  | 1, hu =>
    simp at hu; subst hu
    exact ⟨_, ds, rfl, hl2, h.part (o := 1 * size) (k := size) (by rw [Nat.one_mul, List.append_assoc, List.drop_left' hl, List.take_left' hl2]), hR2⟩
  | 2, hu =>
    simp at hu; subst hu
    exact ⟨_, es, rfl, hl3, h.part (o := 2 * size) (k := size) (by rw [List.drop_left' (by simp; omega), List.take_of_length_le (by omega)]), hR3⟩
theorem rsl1 {α : Type} {size : Nat} {R : Hv → List Value → α → Prop} {b : Nat} {cs : List Value} {x : α} (h : VRow σ ⟨b, 0, none⟩ cs) (hl : cs.length = size) (hR : R σ cs x) : RSl size R σ (.slice (some ⟨b, 0, none⟩) 1 1) [x] := by
  refine ⟨_, 1, rfl, Nat.le_refl _, by simp, fun i y hy => ?_⟩
  match i, hy with
  | 0, hy =>
    simp at hy; subst hy
    exact ⟨_, cs, rfl, hl, by rw [Nat.zero_mul]; exact h, hR⟩
theorem rsl2 {α : Type} {size : Nat} {R : Hv → List Value → α → Prop} {b : Nat} {cs ds : List Value} {x y : α} (h : VRow σ ⟨b, 0, none⟩ (cs ++ ds)) (hl : cs.length = size) (hl2 : ds.length = size) (hR : R σ cs x) (hR2 : R σ ds y) : RSl size R σ (.slice (some ⟨b, 0, none⟩) 2 2) [x, y] := by
  refine ⟨_, 2, rfl, Nat.le_refl _, by simp, fun i z hz => ?_⟩
  match i, hz with
  | 0, hz =>
    simp at hz; subst hz
    exact ⟨_, cs, rfl, hl, h.part (o := 0 * size) (k := size) (by rw [Nat.zero_mul, List.drop_zero, List.take_left' hl]), hR⟩
  | 1, hz =>
    simp at hz; subst hz
    exact ⟨_, ds, rfl, hl2, h.part (o := 1 * size) (k := size) (by rw [Nat.one_mul, List.drop_left' hl, List.take_of_length_le (by omega)]), hR2⟩
/-- An element that is itself a slice. -/
def RSs {α : Type} (size : Nat) (R : Hv → List Value → α → Prop) : Hv → List Value → List α → Prop := fun σ cs l => ∃ v, cs = [v] ∧ RSl size R σ v l

theorem flat_cell {α : Type} {enc : α → List Value} {size : Nat} (he : ∀ x, (enc x).length = size) {l : List α} {i j : Nat} {x : α} {v : Value} (h : l[i]? = some x) (hv : (enc x)[j]? = some v) : (l.flatMap enc)[i * size + j]? = some v := by
  have h1 := flat_at he h
  have hj : j < size := by rw [← he x]; exact (List.getElem?_eq_some_iff.1 hv).1
  rw [← h1, List.getElem?_take, if_pos hj, List.getElem?_drop] at hv
  exact hv
theorem flat_set {α : Type} {enc : α → List Value} {size : Nat} (he : ∀ x, (enc x).length = size) : ∀ {l : List α} {i j : Nat} {x y : α} {vs : List Value}, l[i]? = some x → splice (enc x) j vs = enc y → j + vs.length ≤ size →
    splice (l.flatMap enc) (i * size + j) vs = (l.set i y).flatMap enc
  | [], _, _, _, _, _, h, _, _ => by simp at h
  | a :: l, 0, j, x, y, vs, h, hs, hj => by
    simp at h; subst h
    simp only [Nat.zero_mul, Nat.zero_add, List.set_cons_zero, List.flatMap_cons, ← hs, splice]
    rw [List.take_append_of_le_length (by rw [he]; omega), List.drop_append_of_le_length (by rw [he]; omega)]
    simp [List.append_assoc]
  | a :: l, i + 1, j, x, y, vs, h, hs, hj => by
    simp only [List.getElem?_cons_succ] at h
    have ih := flat_set he h hs hj
    simp only [List.set_cons_succ, List.flatMap_cons, ← ih, splice]
    have e : (i + 1) * size + j = (enc a).length + (i * size + j) := by rw [he, Nat.add_mul, Nat.one_mul]; omega
    rw [e, List.take_append, List.take_of_length_le (by omega), Nat.add_assoc, List.drop_append, List.drop_of_length_le (by omega)]
    simp [List.append_assoc, Nat.add_sub_cancel_left]
/-- The start of a function that is handed an object whose block, if any, it may write. -/
theorem St.startO {w : World} {σ : Hv} (h : View σ w) {o : HObj} (ho : o.ok w) (hσ : ∀ k, o.foot = some k → σ k = none) : St ⟨w, σ, o.foot.toList⟩ w σ [o] :=
  ⟨.refl _ _, h, .refl _, fun _ _ _ => rfl, by simpa using ho, by simp, by simpa using hσ, by intro o' h' k hk; rw [List.mem_singleton.1 h'] at hk; left; rw [hk]; simp⟩
theorem St.growO {c : Cx} {w w1 : World} {σ : Hv} {ms ms' : List HObj} (h : St c w σ ms) {bo : Option Nat} (g : Grow bo.toList σ w σ w1) {i : Nat} {o o' : HObj} (hi : ms[i]? = some o)
    (hf : o.foot = bo) (hf' : o'.foot = bo) (ho : o'.ok w1) (hms : ms.set i o' = ms') : St c w1 σ ms' :=
  h.step hi (by rw [hf]; exact g.keeps) ho (fun k hk => .inl (by rw [hf, ← hf']; exact hk)) hms h.view.none_of_ge
theorem addr0 (b k : Nat) : (⟨b, 0, none⟩ : Addr).add k = ⟨b, k, none⟩ := by rw [addr_lit, Nat.zero_add]
/-- A cell, and a whole element, of an owned slice that holds encoded elements. -/
theorem vec_cell {α : Type} {enc : α → List Value} {size g cap T k : Nat} (he : ∀ x, (enc x).length = size) {l : List α} {i j : Nat} {x : α} {v : Value} (h : (vec (.slice (some ⟨g, 0, none⟩) k cap) T size k (l.flatMap enc)).ok w) (hx : l[i]? = some x) (hv : (enc x)[j]? = some v) : w.cell? ⟨g, i * size + j, none⟩ = some v :=
  (vec_row h).cell _ (flat_cell he hx hv) (addr0 _ _)
theorem vec_part {α : Type} {enc : α → List Value} {size g cap T k : Nat} (he : ∀ x, (enc x).length = size) {l : List α} {i : Nat} {x : α} (h : (vec (.slice (some ⟨g, 0, none⟩) k cap) T size k (l.flatMap enc)).ok w) (hx : l[i]? = some x) : Row w ⟨g, i * size, none⟩ (enc x) := by
  have := (vec_row h).part (o := i * size) (k := size) (flat_at he hx)
  rwa [addr0] at this
theorem RSl.len {α : Type} {size : Nat} {R : Hv → List Value → α → Prop} {v : Value} {l : List α} (h : RSl size R σ v l) : l.length ≤ 140737488355328 := by
  obtain ⟨_, _, _, _, h3, _⟩ := h; exact h3
/-- A row of truth values that is read through a slice. -/
def RBr (N : Nat) (σ : Hv) (v : Value) (p : Nat → Bool) : Prop := ∃ g cap, v = .slice (some ⟨g, 0, none⟩) N cap ∧ VRow σ ⟨g, 0, none⟩ (brow N p)
theorem RBr.ofVec {v : Value} {T N : Nat} {p : Nat → Bool} (h : (vec v T 1 N (brow N p)).ok w) (hN : 0 < N) (hs : ∀ b, v.ownBlock = some b → σ b = w.heap[b]?) : RBr N σ v p := by
  obtain ⟨g, cap, rfl⟩ := vec_pos h hN
  refine ⟨g, cap, rfl, ?_⟩
  intro j u hj
  have hc := vec_row h j u hj
  rw [addr_lit] at hc ⊢
  unfold Hv.cell
  rw [hs g rfl]
  exact hc
theorem fresh_foot {c : Cx} {ms : List HObj} (h : St c w σ ms) (hM : c.M = []) {i : Nat} {o : HObj} (hi : ms[i]? = some o) : ∀ k, o.foot = some k → c.w.heap.size ≤ k ∧ σ k = none :=
  fun k hk => ⟨(h.new o (List.mem_of_getElem? hi) k hk).resolve_left (by rw [hM]; simp), h.off o (List.mem_of_getElem? hi) k hk⟩

/-- An object without memory. -/
def noObj : HObj := ⟨none, fun _ => True, fun _ _ _ h => h, fun _ _ _ h => by cases h⟩

/-- A span of buckets. -/
def encSp (s : Int × Int) : List Value := [.int .i64 s.1, .int .i64 s.2]
theorem encSp_len (s : Int × Int) : (encSp s).length = 2 := rfl
theorem tmod_any (x : Int) {m : Int} (h : 1 ≤ m) : ∃ r : Int, x.tmod m = r ∧ -m < r ∧ r < m := by
  refine ⟨_, rfl, ?_, Int.tmod_lt_of_pos x (by omega)⟩
  rcases Int.le_total 0 x with hx | hx
  · have := Int.tmod_nonneg m hx; omega
  · have h1 := Int.tmod_lt_of_pos (-x) (show 0 < m by omega)
    rw [Int.neg_tmod] at h1; omega

theorem RU8.mono {σ τ : Hv} {cs : List Value} {x : UInt8} (_ : Sub σ τ) (h : RU8 σ cs x) : RU8 τ cs x := h

/-- Behind a call that hands back a new object. -/
theorem St.growAdd {c : Cx} {w w1 : World} {σ σ1 : Hv} {ms : List HObj} (h : St c w σ ms) (g : Grow [] σ w σ1 w1) {o : HObj} (ho : o.ok w1 ∧ ∀ k, o.foot = some k → w.heap.size ≤ k ∧ σ1 k = none) : St c w1 σ1 (o :: ms) := by
  have h1 := h.grow g
  refine ⟨h1.keeps, h1.view, h1.sub, h1.fresh, ?_, ?_, ?_, ?_⟩
  · intro p hp
    rcases List.mem_cons.1 hp with rfl | hp
    · exact ho.1
    · exact h1.own p hp
  · refine List.pairwise_cons.2 ⟨fun p hp k hok hpk => ?_, h1.sep⟩
    have := p.lt w k (h.own p hp) hpk
    have := (ho.2 k hok).1
    omega
  · intro p hp k hpk
    rcases List.mem_cons.1 hp with rfl | hp
    · exact (ho.2 k hpk).2
    · exact h1.off p hp k hpk
  · intro p hp k hpk
    rcases List.mem_cons.1 hp with rfl | hp
    · exact .inr (Nat.le_trans h.keeps.size (ho.2 k hpk).1)
    · exact h1.new p hp k hpk
/-- A call's own object, handed back. -/
theorem St.own1 {w0 w : World} {σ0 σ : Hv} {ms : List HObj} {o : HObj} (h : St ⟨w0, σ0, []⟩ w σ ms) {i : Nat} (hi : ms[i]? = some o) : o.ok w ∧ ∀ k, o.foot = some k → w0.heap.size ≤ k ∧ σ k = none :=
  ⟨h.get hi, fun k hk => ⟨(h.new o (List.mem_of_getElem? hi) k hk).resolve_left (by simp), h.off o (List.mem_of_getElem? hi) k hk⟩⟩

#print axioms RSl.ofVec
end Go.Fl
