/- How the arguments of a row are read into lists, and what a walk leaves of the memory that was there. Conditions: none beyond those in the statements. -/
import Derived.Test.YtkfcnibjlmiboaaFlDraw
import Derived.ProofKit
import Derived.OpenShut
import Derived.ShutString
import Derived.ChangeOld
import Derived.Below
import Derived.SizedLaws
import Derived.Deep.Slices
namespace Go.Fl
open Go Go.RowKit Go.ChangeShapes Go.WideShapes

def hv (W : World) : Hv := fun b => W.heap[b]?
theorem hv_view (W : World) : View (hv W) W := fun _ _ h => h
theorem hv_row {W : World} {base n : Nat} {a : Addr} {cs : List Value} (h : W.cells? base a n = some cs) : cs.length = n ∧ VRow (hv W) a cs := by
  obtain ⟨_, h1, h2⟩ := World.cells?_some h
  refine ⟨h1, fun j v hj => ?_⟩
  have hj' : j < n := by rw [← h1]; exact (List.getElem?_eq_some_iff.1 hj).1
  exact (h2 j hj').trans hj
theorem list_of {α : Type} {Q : Nat → α → Prop} (n : Nat) (h : ∀ i, i < n → ∃ x, Q i x) : ∃ l : List α, l.length = n ∧ ∀ i x, l[i]? = some x → Q i x := by
  induction n with
  | zero => exact ⟨[], rfl, fun i x hx => by simp at hx⟩
  | succ n ih =>
    obtain ⟨l, hl, hq⟩ := ih fun i hi => h i (by omega)
    obtain ⟨x, hx⟩ := h n (by omega)
    refine ⟨l ++ [x], by simp [hl], fun i y hy => ?_⟩
    rcases Nat.lt_or_ge i l.length with hi | hi
    · rw [List.getElem?_append_left hi] at hy; exact hq i y hy
    · rw [List.getElem?_append_right hi] at hy
      have h0 : i - l.length = 0 := by
        rcases Nat.eq_zero_or_pos (i - l.length) with h0 | h0
        · exact h0
        · obtain ⟨m, hm⟩ : ∃ m, i - l.length = m + 1 := ⟨i - l.length - 1, by omega⟩
          rw [hm] at hy; simp at hy
      rw [h0] at hy
      simp at hy
      subst hy
      have : i = n := by omega
      subst this; exact hx

theorem below_of {w w1 : World} (h : Keeps [] w w1) : Below w.heap.size w w1 := ⟨h.os, h.tape, h.output, h.size, fun k hk => h.block k hk (by simp)⟩

section
variable {H : Type} {enc : TypeId × Value → H} {P : Program} {W : World}
theorem sized_at {ts : List TypeId} {ds : List (DataW H)} (h : (DataW.weightsEach P ts ds).all (· ≤ reachBytes) = true) {j : Nat} {t : TypeId} {d : DataW H} (ht : ts[j]? = some t) (hd : ds[j]? = some d) : ∀ n ∈ d.weights P t, n ≤ reachBytes := fun n hn => by
  simpa using List.all_eq_true.1 h _ (DataW.weights_mem_each ht hd n hn)
/-- A slice among the arguments. -/
theorem rd_slice {α : Type} {size : Nat} {R : Hv → List Value → α → Prop} {t e : TypeId} {base : Nat} {spare : Nat → Bool} {held : Bool} {v : Value} {d : DataW H} {ps : List MemPlace} (hu : P.underlying t = some (.slice e)) (hc : P.cellsOf e = size) (hb : 1 ≤ P.bytesOf e)
    (hel : ∀ (n : Nat) (cs : List Value) x, cs.length = size → DataW.trod enc P W base spare held n e cs = some x → ∃ y : α, R (hv W) cs y)
    {r : Reach} {bs : Nat} (hok : Value.okWide P W r bs t v) (h : DataW.Trod enc P W base spare held t v d ps) (hsz : ∀ n ∈ d.weights P t, n ≤ reachBytes) : ∃ l : List α, RSl size R (hv W) v l := by
  obtain ⟨a0, len, cap, rfl⟩ := okWide_slice hu hok
  obtain ⟨fuel, hf⟩ := h
  rcases DataW.trod_slice hu hf with ⟨h0, _⟩ | ⟨a, len', cap', elems, rest, n, _, h0, hx, _, hl, hm, hlen, hE, _, _⟩
  · simp [Value.cells] at h0
    obtain ⟨rfl, rfl, rfl⟩ := h0
    exact ⟨[], RSl.nil⟩
  · simp [Value.cells] at h0
    obtain ⟨rfl, rfl, rfl⟩ := h0
    simp only [Prod.mk.injEq] at hx
    obtain ⟨rfl, _⟩ := hx
    have hlb : len ≤ reachBytes := by
      have h1 := hsz ((elems.map (·.1)).length * P.bytesOf e + (rest.map (·.1)).length * P.bytesOf e) (by simp [DataW.weights, hu, Nat.add_mul])
      rw [List.length_map, hlen] at h1
      have h2 : len * 1 ≤ len * P.bytesOf e := Nat.mul_le_mul_left _ hb
      omega
    obtain ⟨l, hl1, hl2⟩ := list_of (α := α) (Q := fun i y => ∃ cs, cs.length = size ∧ VRow (hv W) (a.add (i * size)) cs ∧ R (hv W) cs y) len (fun i hi => by
      have h1 := hE i hi
      rw [hc] at h1
      rw [List.getElem?_eq_getElem (by omega)] at h1
      obtain ⟨cs, h3, h4⟩ := Option.bind_eq_some_iff.1 h1
      obtain ⟨h5, h6⟩ := hv_row h3
      obtain ⟨y, hy⟩ := hel _ _ _ h5 h4
      exact ⟨y, cs, h5, h6, hy⟩)
    refine ⟨l, some a, cap, by rw [hl1], by omega, by unfold reachBytes at hlb; omega, fun i x hx => ?_⟩
    obtain ⟨cs, h1, h2, h3⟩ := hl2 i x hx
    exact ⟨a, cs, rfl, h1, h2, h3⟩
theorem rd_u8 {t e : TypeId} {base : Nat} {spare : Nat → Bool} {held : Bool} {v : Value} {d : DataW H} {ps : List MemPlace} (hu : P.underlying t = some (.slice e)) (he : P.underlying e = some (.int .u8)) (hc : P.cellsOf e = 1) (hb : 1 ≤ P.bytesOf e)
    {r : Reach} {bs : Nat} (hok : Value.okWide P W r bs t v) (h : DataW.Trod enc P W base spare held t v d ps) (hsz : ∀ n ∈ d.weights P t, n ≤ reachBytes) : ∃ l : List UInt8, RSl 1 RU8 (hv W) v l :=
  rd_slice hu hc hb (fun n cs x _ hx => by
    obtain ⟨a, h1, h2, h3⟩ := DataW.trod_int he hx
    refine ⟨UInt8.ofNat a.toNat, ?_⟩
    subst h1
    have hw := h3
    simp only [Lit.wf, Bool.and_eq_true, decide_eq_true_eq] at hw
    have hlo : (0 : Int) ≤ a := by have := hw.1; simp [IntKind.min] at this; exact this
    have hhi : a ≤ 255 := by have := hw.2; simp [IntKind.max] at this; exact this
    show _ = _
    have h9 : a.toNat < 256 := by omega
    simp [Nat.mod_eq_of_lt h9, Int.toNat_of_nonneg hlo]) hok h hsz
theorem rd_spans {t e : TypeId} {f0 f1 : Field} {base : Nat} {spare : Nat → Bool} {held : Bool} {v : Value} {d : DataW H} {ps : List MemPlace} (hu : P.underlying t = some (.slice e)) (he : P.underlying e = some (.struct #[f0, f1])) (h0 : P.underlying f0.type = some (.int .i64)) (h1 : P.underlying f1.type = some (.int .i64))
    (o0 : f0.offset = 0) (o1 : f1.offset = 1) (c0 : P.cellsOf f0.type = 1) (c1 : P.cellsOf f1.type = 1) (hc : P.cellsOf e = 2) (hb : 1 ≤ P.bytesOf e)
    {r : Reach} {bs : Nat} (hok : Value.okWide P W r bs t v) (h : DataW.Trod enc P W base spare held t v d ps) (hsz : ∀ n ∈ d.weights P t, n ≤ reachBytes) : ∃ l : List (Int × Int), RSl 2 (REnc encSp) (hv W) v l :=
  rd_slice hu hc hb (fun n cs x hl hx => by
    obtain ⟨y0, y1, m, _, _, q0, q1⟩ := trod_struct2 he hx
    obtain ⟨a, a1, _, _⟩ := DataW.trod_int h0 q0
    obtain ⟨b, b1, _, _⟩ := DataW.trod_int h1 q1
    rw [o0, c0] at a1
    rw [o1, c1] at b1
    match cs, hl with
    | [u, v], _ =>
      simp at a1 b1
      subst a1 b1
      exact ⟨(a, b), rfl⟩) hok h hsz
end
end Go.Fl
