/- The library's sort and Compact of strings, in the words of the walks: a slice of the call's own is sorted, and cut to its different elements. Conditions: the two contracts off the shelf, as hypotheses. -/
import Derived.Test.YtkfcnibjlmiboaaFlMap
import Derived.Test.YtkfcnibjlmiboaaFlSeq
import Derived.Sort.OwnSorted
import Derived.Lib.OwnBridge
import Derived.Lib.SlicesCompact
namespace Go.Fl
open Go Go.RowKit

/-! ### Plain -/
def toB (x : List UInt8) : ByteArray := ⟨x.toArray⟩
theorem toB_data (x : ByteArray) : toB x.data.toList = x := by unfold toB; simp
theorem data_toB (x : List UInt8) : (toB x).data.toList = x := by unfold toB; simp
def srt (l : List ByteArray) : List ByteArray := ((l.map (·.data.toList)).mergeSort fun x y => decide (x ≤ y)).map toB
def cpt (l : List ByteArray) : List ByteArray := (Lib.compact (l.map (·.data.toList))).map toB
theorem srt_length (l : List ByteArray) : (srt l).length = l.length := by simp [srt]
theorem mem_srt (l : List ByteArray) (y : ByteArray) : y ∈ srt l ↔ y ∈ l := by
  unfold srt
  simp only [List.mem_map, List.mem_mergeSort]
  constructor
  · rintro ⟨x, ⟨z, hz, rfl⟩, rfl⟩; rw [toB_data]; exact hz
  · exact fun h => ⟨_, ⟨y, h, rfl⟩, toB_data y⟩
theorem lle_total (x y : List UInt8) : x ≤ y ∨ y ≤ x := by
  by_cases h : y < x
  · exact .inr (List.not_lt.1 fun k => List.lt_irrefl x (List.lt_trans k h))
  · exact .inl (List.not_lt.1 h)
theorem lle_trans {x y z : List UInt8} (h : x ≤ y) (k : y ≤ z) : x ≤ z := List.le_trans h k
theorem compact_steps (zs : List (List UInt8)) (hs : zs.Pairwise (· ≤ ·)) : ∀ m, m ≤ zs.length →
    (Lib.compactUpTo zs.toArray m).Pairwise (· < ·) ∧ (∀ y, y ∈ Lib.compactUpTo zs.toArray m ↔ ∃ j, j < m ∧ zs[j]? = some y) ∧ (∀ y ∈ Lib.compactUpTo zs.toArray m, ∀ z, zs[m - 1]? = some z → y ≤ z) ∧ (0 < m → Lib.compactUpTo zs.toArray m ≠ []) := by
  intro m
  induction m with
  | zero => intro _; exact ⟨by simp [Lib.compactUpTo], by simp [Lib.compactUpTo], by simp [Lib.compactUpTo], by omega⟩
  | succ m ih =>
    intro hm
    obtain ⟨h1, h2, h3, h4⟩ := ih (by omega)
    have hg : zs[m]? = some zs[m] := List.getElem?_eq_getElem (by omega)
    have hd : zs.toArray[m]! = zs[m] := by simp [show m < zs.length by omega]
    have hp := List.pairwise_iff_getElem.1 hs
    rw [Lib.compactUpTo_succ, hd]
    by_cases hk : Lib.keeps zs.toArray m = true
    · rw [if_pos hk]
      have hlt : ∀ y ∈ Lib.compactUpTo zs.toArray m, y < zs[m] := by
        intro y hy
        obtain ⟨j, hj, hjy⟩ := (h2 y).1 hy
        have hm0 : 0 < m := by omega
        have hg1 : zs[m - 1]? = some zs[m - 1] := List.getElem?_eq_getElem (by omega)
        have hd1 : zs.toArray[m - 1]! = zs[m - 1] := by simp [show m - 1 < zs.length by omega]
        have hy1 := h3 y hy _ hg1
        have hle : zs[m - 1] ≤ zs[m] := hp (m - 1) m (by omega) (by omega) (by omega)
        simp only [Lib.keeps, decide_eq_true_eq, hd, hd1] at hk
        rcases hk with hk | hk
        · omega
        · refine Classical.byContradiction fun hc => hk ?_
          exact List.le_antisymm (lle_trans (List.not_lt.1 hc) hy1) hle
      refine ⟨?_, fun y => ?_, ?_, by simp⟩
      · rw [List.pairwise_append]
        exact ⟨h1, by simp, fun a ha b hb => by simp at hb; subst hb; exact hlt a ha⟩
      · simp only [List.mem_append, List.mem_singleton, h2]
        constructor
        · rintro (⟨j, hj, hjy⟩ | rfl)
          · exact ⟨j, by omega, hjy⟩
          · exact ⟨m, by omega, hg⟩
        · rintro ⟨j, hj, hjy⟩
          rcases Nat.lt_or_ge j m with hjm | hjm
          · exact .inl ⟨j, hjm, hjy⟩
          · have : j = m := by omega
            subst this
            rw [hg] at hjy; cases hjy; exact .inr rfl
      · intro y hy z hz
        simp only [Nat.add_sub_cancel, hg, Option.some.injEq] at hz
        subst hz
        rcases List.mem_append.1 hy with hy | hy
        · exact List.not_lt.1 fun k => List.lt_irrefl _ (List.lt_trans k (hlt y hy))
        · simp at hy; subst hy; exact List.not_lt.1 (List.lt_irrefl _)
    · rw [if_neg hk, List.append_nil]
      simp only [Lib.keeps, decide_eq_true_eq, hd, not_or, Classical.not_not] at hk
      obtain ⟨hm0, hke⟩ := hk
      have hd1 : zs.toArray[m - 1]! = zs[m - 1] := by simp [show m - 1 < zs.length by omega]
      rw [hd1] at hke
      have hg1 : zs[m - 1]? = some zs[m - 1] := List.getElem?_eq_getElem (by omega)
      refine ⟨h1, fun y => ?_, ?_, fun _ => h4 (by omega)⟩
      · rw [h2]
        constructor
        · rintro ⟨j, hj, hjy⟩; exact ⟨j, by omega, hjy⟩
        · rintro ⟨j, hj, hjy⟩
          rcases Nat.lt_or_ge j m with hjm | hjm
          · exact ⟨j, hjm, hjy⟩
          · have : j = m := by omega
            subst this
            rw [hg] at hjy
            exact ⟨j - 1, by omega, by rw [hg1, ← hke]; exact hjy⟩
      · intro y hy z hz
        simp only [Nat.add_sub_cancel, hg, Option.some.injEq] at hz
        subst hz
        rw [hke]
        exact h3 y hy _ hg1
theorem srt_sorted (l : List ByteArray) : ((srt l).map (·.data.toList)).Pairwise (· ≤ ·) := by
  have h := List.pairwise_mergeSort (le := fun x y : List UInt8 => decide (x ≤ y)) (fun a b c h1 h2 => by simp only [decide_eq_true_eq] at *; exact lle_trans h1 h2) (fun a b => by simpa using lle_total a b) (l.map (·.data.toList))
  unfold srt
  rw [List.map_map]
  have : ((fun x : ByteArray => x.data.toList) ∘ toB) = id := funext fun x => data_toB x
  rw [this, List.map_id]
  exact h.imp fun h => by simpa using h
/-- Sorted and cut: ascending, with the same members. -/
theorem cpt_srt (l : List ByteArray) : Lk.Asc (cpt (srt l)) ∧ (∀ y, y ∈ cpt (srt l) ↔ y ∈ l) ∧ (l ≠ [] → cpt (srt l) ≠ []) ∧ (cpt (srt l)).length ≤ l.length := by
  obtain ⟨h1, h2, _, h4⟩ := compact_steps _ (srt_sorted l) _ (Nat.le_refl _)
  refine ⟨?_, fun y => ?_, fun hne => ?_, ?_⟩
  · unfold Lk.Asc cpt Lib.compact
    rw [List.pairwise_map]
    exact h1.imp fun {a b} h => by show (toB a).data.toList < (toB b).data.toList; rw [data_toB, data_toB]; exact h
  · rw [← mem_srt l y]
    unfold cpt Lib.compact
    simp only [List.mem_map, h2]
    constructor
    · rintro ⟨x, ⟨j, _, hj⟩, rfl⟩
      obtain ⟨z, hz, rfl⟩ := List.mem_map.1 (List.mem_of_getElem? hj)
      rw [toB_data]; exact hz
    · intro hy
      obtain ⟨j, hj⟩ := List.mem_iff_getElem?.1 hy
      refine ⟨y.data.toList, ⟨j, ?_, ?_⟩, toB_data y⟩
      · have := (List.getElem?_eq_some_iff.1 hj).1; simpa using this
      · simp [hj]
  · unfold cpt Lib.compact
    have hl : 0 < ((srt l).map (·.data.toList)).length := by
      rw [List.length_map, srt_length]; exact List.length_pos_iff.2 hne
    intro he
    exact h4 hl (List.map_eq_nil_iff.1 he)
  · unfold cpt Lib.compact Lib.compactUpTo
    simp only [List.length_map]
    refine Nat.le_trans (List.length_filter_le _ _) ?_
    simp [srt_length]

/-! ### At the call -/
variable {P : Program} {w : World} {σ : Hv}
theorem flat_encTx (l : List ByteArray) : l.flatMap encTx = (l.map (·.data.toList)).map Proofs.encStr := by
  rw [Go.Lib.map_encStr]
  induction l with
  | nil => rfl
  | cons x l ih => rw [List.flatMap_cons, ih]; rfl
theorem St.growV {c : Cx} {w1 : World} {ms ms' : List HObj} (h : St c w σ ms) {i : Nat} {o o' : HObj} (hi : ms[i]? = some o) (g : Grow o.foot.toList σ w σ w1)
    (hf : o'.foot = o.foot) (ho : o'.ok w1) (hms : ms.set i o' = ms') : St c w1 σ ms' :=
  h.step hi g.keeps ho (fun k hk => .inl (by rw [← hf]; exact hk)) hms h.view.none_of_ge
theorem grow_of_grownBy {w1 : World} {row : Option Nat} (hV : View σ w) (hg : w.grownBy w1 row) (hσ : ∀ b, row = some b → σ b = none) : Grow row.toList σ w σ w1 := by
  refine ⟨⟨hg.os, hg.tape, hg.output, hg.size, fun k hk hm => hg.block k hk (fun e => hm (by rw [← e]; simp))⟩, fun b o hb => ?_, .refl _, fun _ _ _ => rfl⟩
  have hw := hV b o hb
  rw [hg.block b (lt_of_block hw) (fun e => by rw [hσ b e.symm] at hb; cases hb)]
  exact hw
open Go.Sort Go.Proofs in
theorem sort_vec {fid : FuncId} (c1 : ∀ (blk off cap : Nat) (ss : List (List UInt8)) (w : World), Holds encStr w blk off ss.toArray → blk < w.heap.size → ss.length < 4611686018427387904 →
      Calls P fid #[.slice (some ⟨blk, off, none⟩) ss.length cap] w fun e w' => e = .returned (.tuple #[]) ∧ ∃ n os, w' = grow (putRow encStr (Sort.ahead w n) blk off (ss.mergeSort fun x y => decide (x ≤ y)).toArray) os)
    (c0 : ∀ (p : Option Addr) (cap : Nat) (w : World), Calls P fid #[.slice p 0 cap] w fun e w' => e = .returned (.tuple #[]) ∧ w' = w)
    {v : Value} {T : TypeId} {l : List ByteArray} {n : Nat} (hV : View σ w) (ho : (vec v T 1 n (l.flatMap encTx)).ok w) (hn : l.length = n) (hoff : ∀ b, v.ownBlock = some b → σ b = none) (hl : n < 4611686018427387904) :
    Calls P fid #[v] w fun e w1 => e = .returned (.tuple #[]) ∧ Grow v.ownBlock.toList σ w σ w1 ∧ (vec v T 1 n ((srt l).flatMap encTx)).ok w1 := by
  subst hn
  have ho' : w.ownsRow 0 T 1 v l.length (l.flatMap encTx) := ho
  rcases ho'.2 with ⟨rfl, h0⟩ | ⟨g, cap, cur, rfl, hb0, hb, h1, h2, h3, h4⟩
  · have : l = [] := List.eq_nil_of_length_eq_zero h0
    subst this
    refine (c0 none 0 w).mono ?_
    rintro e w1 ⟨rfl, rfl⟩
    exact ⟨rfl, ⟨.refl _ _, hV, .refl _, fun _ _ _ => rfl⟩, by simpa [srt] using ho⟩
  · have h4' : cur.toList.take (l.map (·.data.toList)).length = (l.map (·.data.toList)).map encStr := by rw [List.length_map, ← flat_encTx]; simpa using h4
    have hc := c1 g 0 cap (l.map (·.data.toList)) w (holds_of_block hb h4') (Array.getElem?_eq_some_iff.1 hb).1 (by simpa using hl)
    rw [List.length_map] at hc
    refine hc.mono ?_
    rintro e w1 ⟨rfl, q, os, rfl⟩
    refine ⟨rfl, grow_of_grownBy hV (grownBy_sorted _) hoff, ?_⟩
    have hr := ownsRow_sorted (n := q) (os := os) (ss := l.map (·.data.toList)) (ts := (l.map (·.data.toList)).mergeSort fun x y => decide (x ≤ y)) (by simp) hb0 hb (by simpa using h1) h2 (by simpa using h3)
    rw [List.length_map] at hr
    show World.ownsRow _ 0 T 1 _ l.length ((srt l).flatMap encTx)
    rw [flat_encTx]
    have e1 : (srt l).map (·.data.toList) = (l.map (·.data.toList)).mergeSort fun x y => decide (x ≤ y) := by
      unfold srt
      rw [List.map_map]
      have : ((fun x : ByteArray => x.data.toList) ∘ toB) = id := funext fun x => data_toB x
      rw [this, List.map_id]
    rw [e1]
    exact hr
open Go.Sort Go.Proofs in
theorem grownBy_put {g q : Nat} (d : Array (List UInt8)) : w.grownBy (putRow encStr (Sort.ahead w q) g 0 d) (some g) := by
  have h := grownBy_sorted (w := w) (g := g) (n := q) (os := #[]) d
  rwa [grow_empty] at h
open Go.Sort Go.Proofs in
theorem compact_vec {fid : FuncId} (c1 : ∀ (blk off cap : Nat) (zs : List (List UInt8)) (w : World), Holds encStr w blk off zs.toArray → zs.length ≤ 9223372036854775807 → zs.length ≤ cap →
      Calls P fid #[.slice (some ⟨blk, off, none⟩) zs.length cap] w fun e w' => e = .returned (.slice (some ⟨blk, off, none⟩) (Lib.compact zs).length cap) ∧ ∃ q, w' = putRow encStr (Sort.ahead w q) blk off (Lib.compact zs ++ List.replicate (zs.length - (Lib.compact zs).length) []).toArray)
    (c0 : ∀ (a : Option Addr) (cap : Nat) (w : World), Calls P fid #[.slice a 0 cap] w fun e w' => e = .returned (.slice a 0 cap) ∧ w' = w)
    {v : Value} {T : TypeId} {l : List ByteArray} {n : Nat} (hV : View σ w) (ho : (vec v T 1 n (l.flatMap encTx)).ok w) (hn : l.length = n) (hoff : ∀ b, v.ownBlock = some b → σ b = none) (hl : n ≤ 9223372036854775807) :
    Calls P fid #[v] w fun e w1 => ∃ v1, e = .returned v1 ∧ v1.ownBlock = v.ownBlock ∧ Grow v.ownBlock.toList σ w σ w1 ∧ (vec v1 T 1 (cpt l).length ((cpt l).flatMap encTx)).ok w1 := by
  subst hn
  have ho' : w.ownsRow 0 T 1 v l.length (l.flatMap encTx) := ho
  rcases ho'.2 with ⟨rfl, h0⟩ | ⟨g, cap, cur, rfl, hb0, hb, h1, h2, h3, h4⟩
  · have : l = [] := List.eq_nil_of_length_eq_zero h0
    subst this
    refine (c0 none 0 w).mono ?_
    rintro e w1 ⟨rfl, rfl⟩
    exact ⟨_, rfl, rfl, ⟨.refl _ _, hV, .refl _, fun _ _ _ => rfl⟩, ho⟩
  · have h4' : cur.toList.take (l.map (·.data.toList)).length = (l.map (·.data.toList)).map encStr := by rw [List.length_map, ← flat_encTx]; simpa using h4
    have hc := c1 g 0 cap (l.map (·.data.toList)) w (holds_of_block hb h4') (by simpa using hl) (by simpa using h1)
    rw [List.length_map] at hc
    refine hc.mono ?_
    rintro e w1 ⟨rfl, q, rfl⟩
    have hle : (Lib.compact (l.map (·.data.toList))).length ≤ l.length := by
      unfold Lib.compact Lib.compactUpTo
      rw [List.length_map]
      refine Nat.le_trans (List.length_filter_le _ _) ?_
      simp
    refine ⟨_, rfl, rfl, grow_of_grownBy hV (grownBy_put _) hoff, ?_⟩
    have ho2 : w.ownsRow 0 T 1 (.slice (some ⟨g, 0, none⟩) l.length cap) l.length ((l.map (·.data.toList)).map encStr) := by rw [← flat_encTx]; exact ho'
    have hr := Go.Lib.ownsRow_putRow (q := q) (k := (Lib.compact (l.map (·.data.toList))).length) (ys := Lib.compact (l.map (·.data.toList)) ++ List.replicate (l.length - (Lib.compact (l.map (·.data.toList))).length) []) ho2 (by simp; omega) hle
    rw [List.take_left'  rfl] at hr
    have e1 : (cpt l).map (·.data.toList) = Lib.compact (l.map (·.data.toList)) := by
      unfold cpt
      rw [List.map_map]
      have : ((fun x : ByteArray => x.data.toList) ∘ toB) = id := funext fun x => data_toB x
      rw [this, List.map_id]
    have e2 : (cpt l).length = (Lib.compact (l.map (·.data.toList))).length := by unfold cpt; simp
    show World.ownsRow _ 0 T 1 _ (cpt l).length ((cpt l).flatMap encTx)
    rw [flat_encTx, e1, e2]
    exact hr
#print axioms cpt_srt
end Go.Fl
