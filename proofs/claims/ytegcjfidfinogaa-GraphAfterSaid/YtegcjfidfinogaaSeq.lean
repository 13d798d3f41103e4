/- slices.AppendSeq over slices.Values: all of a list that reads. Conditions: those in the statements. -/
import Derived.Test.YtegcjfidfinogaaShelf
import Derived.Test.YtegcjfidfinogaaFlIter
import Derived.Test.YtegcjfidfinogaaFlLift
namespace Go.Proofs.Ytegcjfidfinogaa
open Go Go.Proofs Go.RowKit Go.Fl Go.Maps Go.Sort Go.Shelf
attribute [local go_sem] Oper.semAt_some
set_option maxRecDepth 100000 in
set_option maxHeartbeats 2000000 in
theorem values_come (n : Nat) (hn : 1 ≤ n) (w W : World) (l Bs b off cap : Nat) (zs : List (List UInt8)) (hreach : zs.length ≤ 140737488355328) (hBs : Bs < w.heap.size) (hb : b < w.heap.size) (J : List (List UInt8) → World → Prop)
    (hJ : ∀ pre W1, J pre W1 → Below w.heap.size w W1) (hc : w.cell? ⟨Bs, 0, none⟩ = some (.slice (some ⟨b, off, none⟩) zs.length cap)) (hcs : ∀ j, j < zs.length → w.cell? ⟨b, off + j, none⟩ = some (encStr (zs[j]?.getD [])))
    (hY : ∀ pre x W1, J pre W1 → pre.length < zs.length → YieldAt Fence.wide (n - 1) Try.prog l #[encStr x] W1 fun e W' => e = .returned (.bool true) ∧ J (pre ++ [x]) W' ∧ KeepsWalks W1 W') (h0 : J [] W) :
    CallsIn Fence.wide n Try.prog 38 #[.func (.yield l) #[] #[], .pointer (some ⟨Bs, 0, none⟩)] W fun e W' => (∃ v, e = .returned v) ∧ J zs W' := by
  have hc0 := ((hJ _ _ h0).cell (p := ⟨Bs, 0, none⟩) hBs).trans hc
  refine callsIn_of_wp Try.func38 rfl trivial ?_ rfl
  simp only [Try.ntmps38, List.size_toArray, List.length_cons, List.length_nil, Nat.reduceAdd, Nat.reduceSub, Array.replicate_succ, Array.replicate_zero, List.push_toArray, List.append_toArray, List.nil_append, List.cons_append]
  gi_wp2
  gi_loopw [7] (fun i wr => ∃ k : Nat, k ≤ zs.length ∧ i = .int .i64 k ∧ J (zs.take k) wr) (fun i _ => zs.length - (intOf i).toNat)
  case atStart => exact ⟨0, Nat.zero_le _, rfl, h0⟩
  case round =>
    obtain ⟨k, hk, rfl, hJk⟩ := hrel
    by_cases hlt : k < zs.length
    · have hck := ((hJ _ _ hJk).cell (p := ⟨b, off + k, none⟩) hb).trans (hcs k hlt)
      obtain ⟨fn, tmps, assign, body, hy, hR⟩ := hY _ zs[k] wr hJk (by rw [List.length_take]; omega)
      gi_wp2
      refine hR.mono ?_
      rintro e W3 ⟨rfl, hJ3, _⟩
      gi_wp2
      go_roundw
      case rel => exact ⟨k + 1, by omega, by simp, by rw [List.take_succ_eq_append_getElem hlt]; exact hJ3⟩
      case measure => simp [intOf]; omega
    · obtain rfl : k = zs.length := by omega
      rw [List.take_length] at hJk
      gi_wp2
      go_end0
      exact ⟨⟨_, rfl⟩, hJk⟩
set_option maxRecDepth 100000 in
set_option maxHeartbeats 2000000 in
theorem values_none (n : Nat) (w W : World) (l Bs cap : Nat) (a : Option Addr) (hBs : Bs < w.heap.size) (J : List (List UInt8) → World → Prop) (hJ : ∀ pre W1, J pre W1 → Below w.heap.size w W1) (hc : w.cell? ⟨Bs, 0, none⟩ = some (.slice a 0 cap)) (h0 : J [] W) :
    CallsIn Fence.wide n Try.prog 38 #[.func (.yield l) #[] #[], .pointer (some ⟨Bs, 0, none⟩)] W fun e W' => (∃ v, e = .returned v) ∧ J [] W' := by
  have hc0 := ((hJ _ _ h0).cell (p := ⟨Bs, 0, none⟩) hBs).trans hc
  refine callsIn_of_wp Try.func38 rfl trivial ?_ rfl
  simp only [Try.ntmps38, List.size_toArray, List.length_cons, List.length_nil, Nat.reduceAdd, Nat.reduceSub, Array.replicate_succ, Array.replicate_zero, List.push_toArray, List.append_toArray, List.nil_append, List.cons_append]
  gi_wp2
  gi_loopw [7] (fun i wr => i = .int .i64 0 ∧ J [] wr) (fun _ _ => 0)
  case atStart => exact ⟨rfl, h0⟩
  case round =>
    obtain ⟨rfl, hJs⟩ := hrel
    gi_wp2
    go_end0
    exact ⟨⟨_, rfl⟩, hJs⟩
/-- All of a list that reads, appended to nothing. -/
theorem c_seq {σ : Hv} {w : World} (Bs : Nat) (v : Value) (l : List ByteArray) (hV : View σ w) (hB : σ Bs = some (.cells #[v] 23 (0, 0))) (hr : RSl 1 (REnc encTx) σ v l) (hs : Sml l.length) :
    Calls Try.prog 42 #[.slice none 0 0, .func (.func 38) #[] #[.pointer (some ⟨Bs, 0, none⟩)]] w fun e w1 => ∃ v1, e = .returned v1 ∧ Grow [] σ w σ w1 ∧ ((vec v1 9 1 l.length (l.flatMap encTx)).ok w1 ∧ ∀ k, (vec v1 9 1 l.length (l.flatMap encTx)).foot = some k → w.heap.size ≤ k ∧ σ k = none) := by
  have hBw := hV _ _ hB
  have hBl := lt_of_block hBw
  have hBc : w.cell? ⟨Bs, 0, none⟩ = some v := by simp [World.cell?, hBw]
  have hlen : (l.map (·.data.toList)).length = l.length := List.length_map _
  have hgive : GivesTo Fence.wide 2 Try.prog 38 #[.pointer (some ⟨Bs, 0, none⟩)] (l.map (·.data.toList)) w := by
    intro lp J W _ _ hJB hY h0
    obtain ⟨a, cap, rfl, h1, h2, hel⟩ := hr
    cases hl0 : l with
    | nil =>
      subst hl0
      exact values_none 2 w W lp Bs cap a hBl J hJB hBc h0
    | cons x l' =>
      obtain ⟨ad, cs, rfl, _, hrow0, hcs0⟩ := hel 0 x (by rw [hl0]; rfl)
      have cell0 := (hrow0.row hV) 0 _ (by rw [hcs0]; rfl)
      obtain ⟨ab, ao, asp⟩ := ad
      have hsp : asp = none := by
        cases asp with
        | none => rfl
        | some s =>
          have := hrow0 0 (.string x) (by rw [hcs0]; rfl)
          simp [Hv.cell, Addr.add] at this
          split at this <;> simp at this
      subst hsp
      have hbl : ab < w.heap.size := by
        have := hrow0 0 (.string x) (by rw [hcs0]; rfl)
        simp only [addr_lit] at this
        unfold Hv.cell at this
        simp only at this
        cases hq : σ ab with
        | none => rw [hq] at this; simp at this
        | some o => exact lt_of_block (hV _ _ hq)
      rw [← hl0]
      have hcome := values_come 2 (by omega) w W lp Bs ab ao cap (l.map (·.data.toList)) (by rw [hlen]; exact h2) hBl hbl J hJB (by rw [hlen]; exact hBc) (fun j hj => by
        rw [hlen] at hj
        obtain ⟨y, hy⟩ := getq hj
        obtain ⟨ad', cs', had, _, hrow, hcs⟩ := hel j y hy
        cases had
        have hc := (hrow.row hV) 0 (.string y) (by rw [hcs]; rfl)
        rw [addr_add, addr_lit] at hc
        rw [List.getElem?_map, hy]
        simpa [encStr] using hc) hY h0
      exact hcome
  refine (callsIn_wide (n := 3)).1 ((appendSeq_gives (ρ := Try.sorted22_ren) { Try.sorted22 with } Fence.wide 3 trivial rfl (by omega) 38 _ trivial (enters_of Try.func38 (by kernel_rfl) rfl) (l.map (·.data.toList)) (by rw [hlen]; exact (sml_bytes hs (show 16 ≤ 32768 by omega)).2) (by rw [hlen]; exact (sml_bytes hs (by omega)).1) w hgive).mono ?_)
  rintro e w1 ⟨v1, rfl, hown, hbel⟩
  rw [hlen] at hown
  have hfl : (l.map (·.data.toList)).map encStr = l.flatMap encTx := (flat_encTx l).symm
  rw [hfl] at hown
  have hsame : ∀ b, b < w.heap.size → w1.heap[b]? = w.heap[b]? := fun b hb => hbel.block b hb
  refine ⟨v1, rfl, ⟨⟨hbel.os, hbel.tape, hbel.output, hbel.size, fun k hk _ => hbel.block k hk⟩, fun b o hb => (hbel.block b (lt_of_block (hV b o hb))).trans (hV b o hb), .refl _, fun _ _ => rfl⟩, ?_, ?_⟩
  · exact ⟨hown.1, hown.2.imp id fun ⟨g, cap, cur, e1, _, e3⟩ => ⟨g, cap, cur, e1, Nat.zero_le _, e3⟩⟩
  · intro k hk
    have hge : w.heap.size ≤ k := (hown.lt k hk).1
    refine ⟨hge, ?_⟩
    cases hq : σ k with
    | none => rfl
    | some o => have := lt_of_block (hV k o hq); omega
end Go.Proofs.Ytegcjfidfinogaa
