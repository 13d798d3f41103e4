/- SegmentReferences: for every input of bulk at most 1048576 the law returns true and leaves its arguments as they were. This is part 5 of 6. Conditions: those in the statements. -/
import Derived.Test.YthpeboomdlgfaaaGreatDoorR4
import Derived.KernelRfl
import Derived.Conc.MuLone
import GoSem.Core.Utf8
import Derived.Lib.ValidU
section
namespace Go.Proofs.YthpeboomdlgfaaaGreatDoor
open Go Go.Proofs Go.RowKit Go.Fl Go.Maps Go.Sort Go.Shelf
attribute [local go_sem] Oper.semAt_some
set_option maxRecDepth 100000 in
set_option maxHeartbeats 2000000 in
theorem values_come (n : Nat) (hn : 1 ≤ n) (w W : World) (l Bs b off cap : Nat) (zs : List (List UInt8)) (hreach : zs.length ≤ 140737488355328) (hBs : Bs < w.heap.size) (hb : b < w.heap.size) (J : List (List UInt8) → World → Prop)
    (hJ : ∀ pre W1, J pre W1 → Below w.heap.size w W1) (hc : w.cell? ⟨Bs, 0, none⟩ = some (.slice (some ⟨b, off, none⟩) zs.length cap)) (hcs : ∀ j, j < zs.length → w.cell? ⟨b, off + j, none⟩ = some (encStr (zs[j]?.getD [])))
    (hY : ∀ pre x W1, J pre W1 → pre.length < zs.length → YieldAt Fence.wide (n - 1) Tryz.prog l #[encStr x] W1 fun e W' => e = .returned (.bool true) ∧ J (pre ++ [x]) W' ∧ KeepsWalks W1 W') (h0 : J [] W) :
    CallsIn Fence.wide n Tryz.prog 104 #[.func (.yield l) #[] #[], .pointer (some ⟨Bs, 0, none⟩)] W fun e W' => (∃ v, e = .returned v) ∧ J zs W' := by
  have hc0 := ((hJ _ _ h0).cell (p := ⟨Bs, 0, none⟩) hBs).trans hc
  refine callsIn_of_wp Tryz.func104 rfl trivial ?_ rfl
  simp only [Tryz.ntmps104, List.size_toArray, List.length_cons, List.length_nil, Nat.reduceAdd, Nat.reduceSub, Array.replicate_succ, Array.replicate_zero, List.push_toArray, List.append_toArray, List.nil_append, List.cons_append]
  gi_wp2
  gi_loopw [7] (fun i wr => ∃ k : Nat, k ≤ zs.length ∧ i = .int .i64 k ∧ J (zs.take k) wr) (fun i _ => zs.length - (intOf i).toNat)
  case atStart => exact ⟨0, Nat.zero_le _, rfl, h0⟩
  case round =>
    obtain ⟨k, hk, rfl, hJk⟩ := hrel
    by_cases hlt : k < zs.length
    · have hck := ((hJ _ _ hJk).cell (p := ⟨b, off + k, none⟩) hb).trans (hcs k hlt)
      obtain ⟨fn, tmps, assign, body, hy, hR⟩ := hY _ zs[k] wr hJk (by rw [List.length_take]; omega)
      gi_wp2
      refine hR.mono ?_
      rintro e W3 ⟨rfl, hJ3, _⟩
      gi_wp2
      go_roundw
      case rel => exact ⟨k + 1, by omega, by simp, by rw [List.take_succ_eq_append_getElem hlt]; exact hJ3⟩
      case measure => simp [intOf]; omega
    · obtain rfl : k = zs.length := by omega
      rw [List.take_length] at hJk
      gi_wp2
      go_end0
      exact ⟨⟨_, rfl⟩, hJk⟩
set_option maxRecDepth 100000 in
set_option maxHeartbeats 2000000 in
theorem values_none (n : Nat) (w W : World) (l Bs cap : Nat) (a : Option Addr) (hBs : Bs < w.heap.size) (J : List (List UInt8) → World → Prop) (hJ : ∀ pre W1, J pre W1 → Below w.heap.size w W1) (hc : w.cell? ⟨Bs, 0, none⟩ = some (.slice a 0 cap)) (h0 : J [] W) :
    CallsIn Fence.wide n Tryz.prog 104 #[.func (.yield l) #[] #[], .pointer (some ⟨Bs, 0, none⟩)] W fun e W' => (∃ v, e = .returned v) ∧ J [] W' := by
  have hc0 := ((hJ _ _ h0).cell (p := ⟨Bs, 0, none⟩) hBs).trans hc
  refine callsIn_of_wp Tryz.func104 rfl trivial ?_ rfl
  simp only [Tryz.ntmps104, List.size_toArray, List.length_cons, List.length_nil, Nat.reduceAdd, Nat.reduceSub, Array.replicate_succ, Array.replicate_zero, List.push_toArray, List.append_toArray, List.nil_append, List.cons_append]
  gi_wp2
  gi_loopw [7] (fun i wr => i = .int .i64 0 ∧ J [] wr) (fun _ _ => 0)
  case atStart => exact ⟨rfl, h0⟩
  case round =>
    obtain ⟨rfl, hJs⟩ := hrel
    gi_wp2
    go_end0
    exact ⟨⟨_, rfl⟩, hJs⟩
/-- All of a list that reads, appended to nothing. -/
theorem c_seq {σ : Hv} {w : World} (Bs : Nat) (v : Value) (l : List ByteArray) (hV : View σ w) (hB : σ Bs = some (.cells #[v] 30 (0, 0))) (hr : RSl 1 (REnc encTx) σ v l) (hs : Sml l.length) :
    Calls Tryz.prog 139 #[.slice none 0 0, .func (.func 104) #[] #[.pointer (some ⟨Bs, 0, none⟩)]] w fun e w1 => ∃ v1, e = .returned v1 ∧ Grow [] σ w σ w1 ∧ ((vec v1 9 1 l.length (l.flatMap encTx)).ok w1 ∧ ∀ k, (vec v1 9 1 l.length (l.flatMap encTx)).foot = some k → w.heap.size ≤ k ∧ σ k = none) := by
  have hBw := hV _ _ hB
  have hBl := lt_of_block hBw
  have hBc : w.cell? ⟨Bs, 0, none⟩ = some v := by simp [World.cell?, hBw]
  have hlen : (l.map (·.data.toList)).length = l.length := List.length_map _
  have hgive : GivesTo Fence.wide 2 Tryz.prog 104 #[.pointer (some ⟨Bs, 0, none⟩)] (l.map (·.data.toList)) w := by
    intro lp J W _ _ hJB hY h0
    obtain ⟨a, cap, rfl, h1, h2, hel⟩ := hr
    cases hl0 : l with
    | nil =>
      subst hl0
      exact values_none 2 w W lp Bs cap a hBl J hJB hBc h0
    | cons x l' =>
      obtain ⟨ad, cs, rfl, _, hrow0, hcs0⟩ := hel 0 x (by rw [hl0]; rfl)
      have cell0 := (hrow0.row hV) 0 _ (by rw [hcs0]; rfl)
      obtain ⟨ab, ao, asp⟩ := ad
      have hsp : asp = none := by
        cases asp with
        | none => rfl
        | some s =>
          have := hrow0 0 (.string x) (by rw [hcs0]; rfl)
          simp [Hv.cell, Addr.add] at this
          split at this <;> simp at this
      subst hsp
      have hbl : ab < w.heap.size := by
        have := hrow0 0 (.string x) (by rw [hcs0]; rfl)
        simp only [addr_lit] at this
        unfold Hv.cell at this
        simp only at this
        cases hq : σ ab with
        | none => rw [hq] at this; simp at this
        | some o => exact lt_of_block (hV _ _ hq)
      rw [← hl0]
      have hcome := values_come 2 (by omega) w W lp Bs ab ao cap (l.map (·.data.toList)) (by rw [hlen]; exact h2) hBl hbl J hJB (by rw [hlen]; exact hBc) (fun j hj => by
        rw [hlen] at hj
        obtain ⟨y, hy⟩ := getq hj
        obtain ⟨ad', cs', had, _, hrow, hcs⟩ := hel j y hy
        cases had
        have hc := (hrow.row hV) 0 (.string y) (by rw [hcs]; rfl)
        rw [addr_add, addr_lit] at hc
        rw [List.getElem?_map, hy]
        simpa [encStr] using hc) hY h0
      exact hcome
  refine (callsIn_wide (n := 3)).1 ((appendSeq_gives (ρ := Tryz.sorted59_ren) { Tryz.sorted59 with } Fence.wide 3 trivial rfl (by omega) 104 _ trivial (enters_of Tryz.func104 (by kernel_rfl) rfl) (l.map (·.data.toList)) (by rw [hlen]; exact (sml_bytes hs (show 16 ≤ 32768 by omega)).2) (by rw [hlen]; exact (sml_bytes hs (by omega)).1) w hgive).mono ?_)
  rintro e w1 ⟨v1, rfl, hown, hbel⟩
  rw [hlen] at hown
  have hfl : (l.map (·.data.toList)).map encStr = l.flatMap encTx := (flat_encTx l).symm
  rw [hfl] at hown
  have hsame : ∀ b, b < w.heap.size → w1.heap[b]? = w.heap[b]? := fun b hb => hbel.block b hb
  refine ⟨v1, rfl, ⟨⟨hbel.os, hbel.tape, hbel.output, hbel.size, fun k hk _ => hbel.block k hk⟩, fun b o hb => (hbel.block b (lt_of_block (hV b o hb))).trans (hV b o hb), .refl _, fun _ _ _ => rfl⟩, ?_, ?_⟩
  · exact ⟨hown.1, hown.2.imp id fun ⟨g, cap, cur, e1, _, e3⟩ => ⟨g, cap, cur, e1, Nat.zero_le _, e3⟩⟩
  · intro k hk
    have hge : w.heap.size ≤ k := (hown.lt k hk).1
    refine ⟨hge, ?_⟩
    cases hq : σ k with
    | none => rfl
    | some o => have := lt_of_block (hV k o hq); omega
end Go.Proofs.YthpeboomdlgfaaaGreatDoor
end
section
namespace Go.Proofs.YthpeboomdlgfaaaGreatDoor
open Go Go.Proofs Go.RowKit Go.Fl
set_option maxRecDepth 100000 in
set_option maxHeartbeats 2000000 in
theorem w_slices_Clone___string_string_ {σ : Hv} {w : World} (s_p : (List ByteArray)) (v1 : Value) {K : (List ByteArray) → Prop} (hV : View σ w) (hr1 : RSl 1 (REnc encTx) σ v1 s_p) (hP : P_slices_Clone___string_string_ s_p K) :
    Calls Tryz.prog 61 #[v1] w (fun e w1 => ∃ (r1 : (List ByteArray)) (v2 : Value), e = .returned v2 ∧ St ⟨w, σ, []⟩ w1 σ [vec v2 9 1 r1.length ((r1).flatMap encTx)] ∧ Sml r1.length ∧ K r1) := by
 unfold P_slices_Clone___string_string_ at hP
 obtain ⟨a1, cap1, rfl⟩ := hr1.shape
 refine enter Tryz.func61 rfl rfl rfl ?_
 have hS := St.start hV
 refine seq_reg (o_assign (v := (.slice none 0 0)) rfl (wpList_nil (then_n (wp_seq (seq_reg (o_move (v := (.slice a1 s_p.length cap1)) rfl ?_))))))
 replace hP := hP a1.isNone (RSl.isNil hr1)
 obtain ⟨r1_, hn1⟩ : ∃ r : Bool, a1.isNone = r := ⟨_, rfl⟩
 rw [hn1] at hP
 refine o_eqlnil Tryz.underlying30 rfl hn1 (wpList_nil (then_n ?_))
 refine if_b rfl (fun ht1 => ?_) (fun ht1 => ?_)
 ·
  replace hP := hP.1 ht1
  refine seq_reg (o_assign (v := (.slice none 0 0)) rfl (wpList_nil (then_n (wp_ret (then_r (ret1 rfl (show ev _ _ _ = (.slice none 0 0) from rfl) ?_))))))
  have hS1 := hS.addNil 9 1
  exact ⟨[], (.slice none 0 0), rfl, (St.back hS1 (Sub.refl _)), (by simp [Sml]), hP⟩
 ·
  replace hP := hP.2 (by first | (rw [ht1]; exact Bool.false_ne_true) | simp [ht1])
  refine wp_skip (then_n (seq_reg (o_bslice (cs := []) (e := 9) hS (fun _ => by kernel_rfl) ?_)))
  intro b1 w1 hS2
  refine o_move (v := (.slice a1 s_p.length cap1)) rfl ?_
  have hS3 := hS2.asVec (i := 0) (ms' := [vec (.slice (some ⟨b1, 0, none⟩) 0 0) 9 1 0 []]) (size := 1) rfl rfl (by unfold maxLen; omega) rfl
  obtain ⟨hsm1, hP⟩ := hP
  refine o_appR (enc := encTx) (l := s_p) (Ms := fun v3 => [vec v3 9 1 s_p.length ((s_p).flatMap encTx)]) (k' := s_p.length) (xs' := (s_p).flatMap encTx) Tryz.underlying30 Tryz.type9 rfl rfl (bytes := 16) rfl rfl (Nat.succ_pos _) hS3 rfl (q := 0) rfl rfl hr1 hS3.view encTx_len encTx_one hsm1 (by omega) (by first | rfl | exact List.length_append.symm | simp) (List.nil_append _) (fun _ => rfl) ?_
  intro v3 w2 ho1 hS4
  refine o_assign (v := v3) rfl (wpList_nil (then_n (wp_ret (ret1 rfl (show ev _ _ _ = v3 from rfl) ?_))))
  exact ⟨s_p, v3, rfl, (St.back hS4 (Sub.refl _)), hsm1, hP⟩
set_option maxRecDepth 100000 in
set_option maxHeartbeats 2000000 in
theorem w_slices_Index___string_string_ {σ : Hv} {w : World} (s_p : (List ByteArray)) (v_p : ByteArray) (v1 : Value) {K : Int → Prop} (hV : View σ w) (hr1 : RSl 1 (REnc encTx) σ v1 s_p) (hP : P_slices_Index___string_string_ s_p v_p K) :
    Calls Tryz.prog 79 #[v1, (.string v_p)] w (fun e w1 => ∃ (r1 : Int), e = .returned (.int .i64 r1) ∧ Grow [] σ w σ w1 ∧ K r1) := by
 unfold P_slices_Index___string_string_ at hP
 obtain ⟨a1, cap1, rfl⟩ := hr1.shape
 refine enter Tryz.func79 rfl rfl rfl ?_
 have hS := St.start hV
 refine seq_reg (o_assign (v := (.int .i64 (0 : Int))) rfl (wpList_nil (then_n (wp_seq (seq_reg (o_move (v := (.slice a1 s_p.length cap1)) rfl (o_len_slice rfl Tryz.underlying30 ?_)))))))
 have hlen1 := RSl.len63 hr1
 replace hP := hP hlen1
 refine o_move (v := (.int .i64 (0 : Int))) rfl (wpList_nil (then_n (wp_block ?_)))
 refine lp_loop1 (fun k_2 f z => ∃ (σ1 : Hv) (g : Fr), f = (upd (upd (upd (upd g 0 (.slice a1 s_p.length cap1)) 1 (.string v_p)) 7 (.int .i64 ((s_p.length : Nat) : Int))) 8 (.int .i64 ((k_2 : Nat) : Int))) ∧ St ⟨w, σ, []⟩ z σ1 [] ∧ Sub σ σ1) hP ⟨σ, _, (upd_in rfl (upd_in rfl (upd_in rfl (upd_in rfl rfl)))), hS, (Sub.refl _)⟩ ?_
 clear hP
 rintro k_2 Y1 hP f w1 ⟨σ1, g, rfl, hS1, hsub1⟩
 refine seq_reg (o_lss (r := (decide (((k_2 : Nat) : Int) < ((s_p.length : Nat) : Int)))) rfl rfl rfl (wpList_nil (then_n (wp_seq ?_))))
 refine if_d (((k_2 : Nat) : Int) < ((s_p.length : Nat) : Int)) rfl (fun ht1 => ?_) (fun ht1 => ?_)
 ·
  replace hP := hP.1 ht1
  refine wp_skip (then_n (wp_seq (wp_block (seq_reg (o_move (v := (.int .i64 ((k_2 : Nat) : Int))) rfl (o_assign (v := (.int .i64 ((k_2 : Nat) : Int))) rfl (wpList_nil (then_n (seq_reg (o_move (v := (.string v_p)) rfl (o_move (v := (.slice a1 s_p.length cap1)) rfl (o_move (v := (.int .i64 ((k_2 : Nat) : Int))) rfl ?_))))))))))))
  obtain ⟨x1_, hx1⟩ := getq (l := s_p) (k := k_2) (by have := ht1; omega)
  replace hP := hP x1_ hx1
  obtain ⟨ad1, cs1, ha1, hl1, hr2, hR1, hlt1⟩ := RSl.at hr1 hx1
  cases hR1
  refine o_iaddr_slice (k := k_2) (a' := (ad1.add (k_2 * 1))) (congrArg (fun z => Value.slice z _ _) ha1) rfl rfl hlt1 Tryz.underlying30 Tryz.sizeOf9 rfl (o_load (v := (.string x1_)) rfl Tryz.isAgg9 (hr2.cell (View.of hsub1 hS1.view) 0 rfl rfl) (o_eqls (r := (decide (v_p = x1_))) rfl rfl rfl (wpList_nil (then_n ?_))))
  refine if_d (v_p = x1_) rfl (fun ht2 => ?_) (fun ht2 => ?_)
  ·
   replace hP := hP.1 ht2
   refine seq_reg (o_move (v := (.int .i64 ((k_2 : Nat) : Int))) rfl (o_assign (v := (.int .i64 ((k_2 : Nat) : Int))) rfl (wpList_nil (then_n (wp_ret (blk_r (then_r (then_r (blk_r (then_r (ret1 rfl (show ev _ _ _ = (.int .i64 ((k_2 : Nat) : Int)) from rfl) ?_)))))))))))
   exact ⟨((k_2 : Nat) : Int), rfl, hS1.done.forget, hP⟩
  ·
   replace hP := hP.2 ht2
   refine wp_skip (blk_n (then_n (one_reg (o_add (r := ((k_2 + 1 : Nat) : Int)) rfl rfl (nw (by omega) (by omega) (by have := hlen1; omega)) (o_move (v := (.int .i64 ((k_2 + 1 : Nat) : Int))) rfl (wpList_nil (then_n ?_)))))))
   exact ⟨k_2 + 1, _, rfl, hP, σ1, _, (upd_in rfl (upd_in rfl (upd_in rfl (upd_in rfl rfl)))), hS1, hsub1⟩
 ·
  replace hP := hP.2 ht1
  refine wp_exit (then_e (then_e (blk_hit (then_n (seq_reg (o_assign (v := (.int .i64 (-1 : Int))) rfl (wpList_nil (then_n (wp_ret (ret1 rfl (show ev _ _ _ = (.int .i64 (-1 : Int)) from rfl) ?_))))))))))
  exact ⟨(-1 : Int), rfl, hS1.done.forget, hP⟩
set_option maxRecDepth 100000 in
set_option maxHeartbeats 2000000 in
theorem w_slices_Contains___string_string_ {σ : Hv} {w : World} (s_p : (List ByteArray)) (v_p : ByteArray) (v1 : Value) {K : Bool → Prop} (hV : View σ w) (hr1 : RSl 1 (REnc encTx) σ v1 s_p) (hP : P_slices_Contains___string_string_ s_p v_p K) :
    Calls Tryz.prog 50 #[v1, (.string v_p)] w (fun e w1 => ∃ (r1 : Bool), e = .returned (.bool (r1)) ∧ Grow [] σ w σ w1 ∧ K r1) := by
 unfold P_slices_Contains___string_string_ at hP
 obtain ⟨a1, cap1, rfl⟩ := hr1.shape
 refine enter Tryz.func50 rfl rfl rfl ?_
 have hS := St.start hV
 refine seq_reg (o_assign (v := (.bool false)) rfl (wpList_nil (then_n (seq_reg (o_move (v := (.slice a1 s_p.length cap1)) rfl (o_move (v := (.string v_p)) rfl ?_))))))
 obtain ⟨Y1, hK1, hc1⟩ := hP
 refine o_call (args := [(.slice a1 s_p.length cap1), (.string v_p)]) rfl Tryz.call79 (Calls.mono (w_slices_Index___string_string_ s_p v_p (.slice a1 s_p.length cap1) hS.view hr1 hc1) ?_)
 rintro _ w1 ⟨r1_, rfl, hg1, hY1⟩
 refine ⟨_, rfl, ?_⟩
 have hS1 := hS.grow hg1
 replace hP := hK1 r1_ hY1
 refine o_geq (r := (decide ((0 : Int) ≤ r1_))) rfl rfl rfl (o_assign (v := (.bool (decide ((0 : Int) ≤ r1_)))) rfl (wpList_nil (then_n (wp_ret (ret1 rfl (show ev _ _ _ = (.bool (decide ((0 : Int) ≤ r1_))) from rfl) ?_)))))
 exact ⟨(decide ((0 : Int) ≤ r1_)), rfl, hS1.done.forget, hP⟩
set_option maxRecDepth 100000 in
set_option maxHeartbeats 2000000 in
theorem w_graph_Order {σ : Hv} {w : World} (nodes_p : (List ByteArray)) (edges_p : (List (ByteArray × ByteArray))) (v1 : Value) (v2 : Value) {K : (List ByteArray) → Int → Prop} (hV : View σ w) (hr1 : RSl 1 (REnc encTx) σ v1 nodes_p) (hr2 : RSl 2 (REnc encEd) σ v2 edges_p) (hP : P_graph_Order nodes_p edges_p K) :
    Calls Tryz.prog 33 #[v1, v2] w (fun e w1 => ∃ (r1 : (List ByteArray)) (r2 : Int) (v3 : Value), e = .returned (.tuple #[v3, (.int .i64 r2)]) ∧ St ⟨w, σ, []⟩ w1 σ [vec v3 9 1 r1.length ((r1).flatMap encTx)] ∧ Sml r1.length ∧ K r1 r2) := by
 unfold P_graph_Order at hP
 obtain ⟨a1, cap1, rfl⟩ := hr1.shape
 obtain ⟨a2, cap2, rfl⟩ := hr2.shape
 refine enter Tryz.func33 rfl rfl rfl ?_
 have hS := St.start hV
 refine seq_reg (o_assign (v := (.slice none 0 0)) rfl (o_assign (v := (.int .i64 (0 : Int))) rfl (wpList_nil (then_n (seq_reg (o_move (v := (.slice a1 nodes_p.length cap1)) rfl (o_call (args := [(.slice a1 nodes_p.length cap1)]) rfl Tryz.call60 ?_)))))))
 refine enter Tryz.func60 rfl rfl rfl ?_
 refine seq_reg (o_box (cs := [(.slice a1 nodes_p.length cap1)]) hS rfl rfl ?_)
 intro b1 w1 hS1
 refine o_assign (v := .nilFunc) rfl (wpList_nil (then_n (seq_reg (o_makefunc (la := []) (lb := [(.pointer (some ⟨b1, 0, none⟩))]) rfl rfl (o_assign (v := (.func (.func 104) #[] #[(.pointer (some ⟨b1, 0, none⟩))])) rfl (wpList_nil (then_n (wp_ret (ret1 rfl (show ev _ _ _ = (.func (.func 104) #[] #[(.pointer (some ⟨b1, 0, none⟩))]) from rfl) ?_)))))))))
 refine ⟨_, rfl, ?_⟩
 refine o_call (args := [(.func (.func 104) #[] #[(.pointer (some ⟨b1, 0, none⟩))])]) rfl Tryz.call59 ?_
 refine enter Tryz.func59 rfl rfl rfl ?_
 refine seq_reg (o_assign (v := (.slice none 0 0)) rfl (wpList_nil (then_n (seq_reg (o_move (v := (.func (.func 104) #[] #[(.pointer (some ⟨b1, 0, none⟩))])) rfl (o_call (args := [(.func (.func 104) #[] #[(.pointer (some ⟨b1, 0, none⟩))])]) rfl Tryz.call103 ?_))))))
 refine enter Tryz.func103 rfl rfl rfl ?_
 refine seq_reg (o_assign (v := (.slice none 0 0)) rfl (wpList_nil (then_n (seq_reg (o_move (v := (.func (.func 104) #[] #[(.pointer (some ⟨b1, 0, none⟩))])) rfl ?_)))))
 obtain ⟨σ1, hS2, hsub1, hfr1⟩ := hS1.freeze' (i := 0) rfl rfl
 have hB1 : σ1 b1 = some (.cells #[(.slice a1 nodes_p.length cap1)] 30 (0, 0)) := (hfr1 _ rfl).trans (hS1.get (i := 0) rfl)
 obtain ⟨hsm1, hP⟩ := hP
 refine o_call (args := [(.slice none 0 0), (.func (.func 104) #[] #[(.pointer (some ⟨b1, 0, none⟩))])]) rfl Tryz.call139 (Calls.mono (c_seq b1 (.slice a1 nodes_p.length cap1) nodes_p hS2.view hB1 (RSl.menc hsub1 hr1) hsm1) ?_)
 rintro _ w2 ⟨v4, rfl, hg1, ho1⟩
 refine ⟨_, rfl, ?_⟩
 have hS3 := hS2.growAdd hg1 (o := vec v4 9 1 nodes_p.length ((nodes_p).flatMap encTx)) ho1
 refine o_assign (v := v4) rfl (wpList_nil (then_n (wp_ret (ret1 rfl (show ev _ _ _ = v4 from rfl) ?_))))
 refine ⟨_, rfl, ?_⟩
 refine o_assign (v := v4) rfl (wpList_nil (then_n (seq_reg (o_move (v := v4) rfl ?_))))
 refine o_call (args := [v4]) rfl Tryz.call30 (Calls.mono (sort_vec Tryz.slices_Sort_string Tryz.slices_Sort_string_none hS3.view (hS3.get (i := 0) rfl) rfl (fun b hb => hS3.off _ (List.mem_of_getElem? (i := 0) rfl) b hb) (by have := hsm1; unfold Sml at this; omega)) ?_)
 rintro _ w3 ⟨rfl, hg2, ho2⟩
 refine ⟨_, rfl, ?_⟩
 have hS4 := hS3.growV (i := 0) (o' := vec v4 9 1 nodes_p.length ((srt nodes_p).flatMap encTx)) rfl hg2 rfl ho2 (ms' := [vec v4 9 1 nodes_p.length ((srt nodes_p).flatMap encTx)]) rfl
 have hS5 := hS4.re (ms' := [vec v4 9 1 ((srt nodes_p).length) ((srt nodes_p).flatMap encTx)]) (by simp only [srt_length])
 refine wpList_nil (then_n (seq_reg (o_move (v := v4) rfl (o_assign (v := v4) rfl (wpList_nil (then_n (wp_ret (ret1 rfl (show ev _ _ _ = v4 from rfl) ?_))))))))
 refine ⟨_, rfl, ?_⟩
 refine o_assign (v := v4) rfl (wpList_nil (then_n (wp_seq (seq_reg (o_move (v := v4) rfl ?_)))))
 obtain ⟨σ2, hS6, hsub2, hr4⟩ := hS5.peek (i := 0) rfl encTx_len (show Sml (srt nodes_p).length by rw [srt_length]; exact hsm1)
 obtain ⟨Y1, hK1, hc1⟩ := hP
 refine o_call (args := [v4]) rfl Tryz.call61 (Calls.mono (w_slices_Clone___string_string_ (srt nodes_p) v4 hS6.view hr4 hc1) ?_)
 rintro _ w4 ⟨r1_, v5, rfl, hg3, hl1, hY1⟩
 refine ⟨_, rfl, ?_⟩
 have hS7 := St.callM (ins := []) (rest := [vec v4 9 1 ((srt nodes_p).length) ((srt nodes_p).flatMap encTx)]) (ms' := [vec v5 9 1 r1_.length ((r1_).flatMap encTx), vec v4 9 1 ((srt nodes_p).length) ((srt nodes_p).flatMap encTx)]) hS5 (St.back hg3 hsub2) rfl
 replace hP := hK1 r1_ hY1
 obtain ⟨hsm2, hP⟩ := hP
 refine o_call (args := [v5]) rfl Tryz.call31 (Calls.mono (compact_vec Tryz.slices_Compact_string Tryz.slices_Compact_string_empty hS7.view (hS7.get (i := 0) rfl) rfl (fun b hb => hS7.off _ (List.mem_of_getElem? (i := 0) rfl) b hb) (by have := hl1; unfold Sml at this; omega)) ?_)
 rintro _ w5 ⟨v6, rfl, hf1, hg4, ho3⟩
 refine ⟨_, rfl, ?_⟩
 have ho4 := vec_one ho3
 have hS8 := hS7.growV (i := 0) (o' := vec v6 9 1 ((cpt r1_).length) ((cpt r1_).flatMap encTx)) rfl hg4 hf1 ho3 (ms' := [vec v6 9 1 ((cpt r1_).length) ((cpt r1_).flatMap encTx), vec v4 9 1 ((srt nodes_p).length) ((srt nodes_p).flatMap encTx)]) rfl
 refine o_len_vec hS8 rfl (i := 0) rfl Tryz.underlying30 ?_
 have hlen1 : (cpt r1_).length ≤ 9223372036854775807 := by have := hsm2; unfold Sml at this; omega
 replace hP := hP hlen1
 refine o_move (v := v4) rfl (o_len_vec hS8 rfl (i := 1) rfl Tryz.underlying30 ?_)
 have hlen2 : (srt nodes_p).length ≤ 9223372036854775807 := by have := (show Sml (srt nodes_p).length by rw [srt_length]; exact hsm1); unfold Sml at this; omega
 replace hP := hP hlen2
 refine o_neq (r := (!decide ((((cpt r1_).length : Nat) : Int) = (((srt nodes_p).length : Nat) : Int)))) rfl rfl rfl (wpList_nil (then_n ?_))
 refine if_nd ((((cpt r1_).length : Nat) : Int) = (((srt nodes_p).length : Nat) : Int)) rfl (fun ht1 => ?_) (fun ht1 => ?_)
 ·
  replace hP := hP.2 ht1
  refine seq_reg (o_assign (v := (.slice none 0 0)) rfl (o_assign (v := (.int .i64 (10 : Int))) rfl (wpList_nil (then_n (wp_ret (then_r (ret2 rfl (show ev _ _ _ = (.slice none 0 0) from rfl) (show ev _ _ _ = (.int .i64 (10 : Int)) from rfl) ?_)))))))
  have hS9 := hS8.addNil 9 1
  exact ⟨[], (10 : Int), (.slice none 0 0), rfl, (St.back (hS9.keep 1 (ms' := [vec (.slice none 0 0) 9 1 0 []]) rfl) (Sub.refl _)), (by simp [Sml]), hP⟩
 ·
  replace hP := hP.1 ht1
  refine wp_skip (then_n (seq_reg (o_makemapL 9 1 encTx hS8 ?_)))
  intro b2 w6 hS10
  refine o_alloc (cs := [(.map none)]) hS10 Tryz.zeroValue126 rfl ?_
  intro b3 w7 hS11
  refine o_store (T := 126) (vs := [(.map (some b2))]) (cs' := [(.map (some b2))]) (ms' := (blk b3 126 [(.map (some b2))] :: smap b2 (asl []) :: vec v6 9 1 ((cpt r1_).length) ((cpt r1_).flatMap encTx) :: vec v4 9 1 ((srt nodes_p).length) ((srt nodes_p).flatMap encTx) :: elems 9 1 encTx [])) (i := 0) hS11 rfl rfl rfl Tryz.sizeOf126 rfl (ones rfl) rfl (Nat.le_of_ble_eq_true rfl) rfl rfl ?_
  intro w8 hS12
  refine wpList_nil (then_n (wp_seq (seq_reg (o_move (v := (.slice a2 edges_p.length cap2)) rfl (o_len_slice rfl Tryz.underlying77 ?_)))))
  have hlen3 := RSl.len63 hr2
  replace hP := hP hlen3
  refine o_move (v := (.int .i64 (0 : Int))) rfl (wpList_nil (then_n (wp_block ?_)))
  have hS13 := hS12.front 3 rfl (ms' := (vec v4 9 1 ((srt nodes_p).length) ((srt nodes_p).flatMap encTx) :: blk b3 126 [(.map (some b2))] :: smap b2 (asl []) :: vec v6 9 1 ((cpt r1_).length) ((cpt r1_).flatMap encTx) :: elems 9 1 encTx [])) rfl
  have hS14 := hS13.front 3 rfl (ms' := (vec v6 9 1 ((cpt r1_).length) ((cpt r1_).flatMap encTx) :: vec v4 9 1 ((srt nodes_p).length) ((srt nodes_p).flatMap encTx) :: blk b3 126 [(.map (some b2))] :: smap b2 (asl []) :: elems 9 1 encTx [])) rfl
  have hS15 := hS14.front 2 rfl (ms' := (blk b3 126 [(.map (some b2))] :: vec v6 9 1 ((cpt r1_).length) ((cpt r1_).flatMap encTx) :: vec v4 9 1 ((srt nodes_p).length) ((srt nodes_p).flatMap encTx) :: smap b2 (asl []) :: elems 9 1 encTx [])) rfl
  have hS16 := hS15.front 3 rfl (ms' := (smap b2 (asl []) :: blk b3 126 [(.map (some b2))] :: vec v6 9 1 ((cpt r1_).length) ((cpt r1_).flatMap encTx) :: vec v4 9 1 ((srt nodes_p).length) ((srt nodes_p).flatMap encTx) :: elems 9 1 encTx [])) rfl
  refine lp_loop2 (fun k_3 F_2 f z => ∃ (es2 : EL ByteArray) (σ3 : Hv) (g : Fr), f = (upd (upd (upd (upd (upd g 6 v4) 7 (.pointer (some ⟨b3, 0, none⟩))) 24 (.slice a2 edges_p.length cap2)) 25 (.int .i64 ((edges_p.length : Nat) : Int))) 26 (.int .i64 ((k_3 : Nat) : Int))) ∧ St ⟨w, σ, []⟩ z σ3 (smap b2 (asl es2) :: blk b3 126 [(.map (some b2))] :: vec v6 9 1 ((cpt r1_).length) ((cpt r1_).flatMap encTx) :: vec v4 9 1 ((srt nodes_p).length) ((srt nodes_p).flatMap encTx) :: elems 9 1 encTx es2) ∧ Sub σ1 σ3 ∧ ELF es2 F_2) hP ⟨[], σ1, _, (upd_in rfl (upd_in rfl (upd_in rfl (upd_in rfl (upd_in rfl rfl))))), hS16, (Sub.refl _), ELF.nil⟩ ?_
  clear hP
  rintro k_3 F_2 Y2 hP f w9 ⟨es2, σ3, g, rfl, hS17, hsub3, hF2⟩
  refine seq_reg (o_lss (r := (decide (((k_3 : Nat) : Int) < ((edges_p.length : Nat) : Int)))) rfl rfl rfl (wpList_nil (then_n (wp_seq ?_))))
  refine if_d (((k_3 : Nat) : Int) < ((edges_p.length : Nat) : Int)) rfl (fun ht2 => ?_) (fun ht2 => ?_)
  ·
   replace hP := hP.1 ht2
   refine wp_skip (then_n (wp_seq (wp_block (seq_reg ?_))))
   obtain ⟨x1_, hx1⟩ := getq (l := edges_p) (k := k_3) (by have := ht2; omega)
   replace hP := hP x1_ hx1
   obtain ⟨ad1, cs1, ha1, hl2, hr6, hR1, hlt1⟩ := RSl.at hr2 hx1
   cases hR1
   refine o_iaddr_slice (k := k_3) (a' := (ad1.add (k_3 * 2))) (congrArg (fun z => Value.slice z _ _) ha1) rfl rfl hlt1 Tryz.underlying77 Tryz.sizeOf79 rfl (o_loadA (cs := [(.string x1_.1), (.string x1_.2)]) rfl Tryz.isAgg79 Tryz.sizeOf79 rfl (hr6.row (View.of (Sub.trans hsub1 hsub3) hS17.view)) (o_alloc (cs := [(.string (⟨#[]⟩ : ByteArray)), (.string (⟨#[]⟩ : ByteArray))]) hS17 Tryz.zeroValue79 rfl ?_))
   intro b4 w10 hS18
   refine o_store (T := 79) (vs := [(.string x1_.1), (.string x1_.2)]) (cs' := [(.string x1_.1), (.string x1_.2)]) (ms' := (blk b4 79 [(.string x1_.1), (.string x1_.2)] :: smap b2 (asl es2) :: blk b3 126 [(.map (some b2))] :: vec v6 9 1 ((cpt r1_).length) ((cpt r1_).flatMap encTx) :: vec v4 9 1 ((srt nodes_p).length) ((srt nodes_p).flatMap encTx) :: elems 9 1 encTx es2)) (i := 0) hS18 rfl rfl rfl Tryz.sizeOf79 rfl (ones rfl) rfl (Nat.le_of_ble_eq_true rfl) rfl rfl ?_
   intro w11 hS19
   refine wpList_nil (then_n (wp_seq (seq_reg (o_move (v := v4) rfl (o_faddr (a' := ⟨b4, 0, none⟩) rfl Tryz.underlying79 rfl Tryz.sizeOf9 rfl (o_load (v := (.string x1_.1)) rfl Tryz.isAgg9 (hS19.cell (i := 0) rfl rfl) ?_))))))
   obtain ⟨σ4, hS20, hsub4, hr7⟩ := hS19.peek (i := 4) rfl encTx_len (show Sml (srt nodes_p).length by rw [srt_length]; exact hsm1)
   obtain ⟨Y3, hK2, hc2⟩ := hP
   refine o_call (args := [v4, (.string x1_.1)]) rfl Tryz.call50 (Calls.mono (w_slices_Contains___string_string_ (srt nodes_p) x1_.1 v4 hS20.view hr7 hc2) ?_)
   rintro _ w12 ⟨r2_, rfl, hg5, hY2⟩
   refine ⟨_, rfl, ?_⟩
   have hg5b := hg5.back hsub4
   have hS21 := hS19.grow hg5b
   replace hP := hK2 r2_ hY2
   refine o_not (r := (!r2_)) rfl rfl ?_
   rcases Bool.eq_false_or_eq_true (r2_) with hb1 | hb1
   ·
    replace hP := hP.1 hb1
    refine o_move (v := (.bool false)) (congrArg Value.bool (congrArg Bool.not hb1)) (o_on rfl rfl (o_move (v := v4) rfl (o_on rfl rfl (o_faddr (a' := ⟨b4, 1, none⟩) rfl Tryz.underlying79 rfl Tryz.sizeOf9 rfl (o_on rfl rfl (o_load (v := (.string x1_.2)) rfl Tryz.isAgg9 (hS21.cell (i := 0) rfl rfl) (o_on rfl rfl ?_)))))))
    obtain ⟨σ5, hS22, hsub5, hr8⟩ := hS21.peek (i := 4) rfl encTx_len (show Sml (srt nodes_p).length by rw [srt_length]; exact hsm1)
    obtain ⟨Y4, hK3, hc3⟩ := hP
    refine o_call (args := [v4, (.string x1_.2)]) rfl Tryz.call50 (Calls.mono (w_slices_Contains___string_string_ (srt nodes_p) x1_.2 v4 hS22.view hr8 hc3) ?_)
    rintro _ w13 ⟨r3_, rfl, hg6, hY3⟩
    refine ⟨_, rfl, ?_⟩
    have hg6b := hg6.back hsub5
    have hS23 := hS21.grow hg6b
    replace hP := hK3 r3_ hY3
    refine o_on rfl rfl (o_not (r := (!r3_)) rfl rfl (o_pick_f (v := (.bool (!r3_))) rfl rfl (wpList_nil (then_n ?_))))
    refine if_nb rfl (fun ht3 => ?_) (fun ht3 => ?_)
    ·
     replace hP := hP.2 (by first | (rw [ht3]; exact Bool.false_ne_true) | simp [ht3])
     refine seq_reg (o_assign (v := (.slice none 0 0)) rfl (o_assign (v := (.int .i64 (11 : Int))) rfl (wpList_nil (then_n (wp_ret (then_r (blk_r (then_r (then_r (blk_r (then_r (ret2 rfl (show ev _ _ _ = (.slice none 0 0) from rfl) (show ev _ _ _ = (.int .i64 (11 : Int)) from rfl) ?_))))))))))))
     have hS24 := hS23.addNil 9 1
     exact ⟨[], (11 : Int), (.slice none 0 0), rfl, (St.back (hS24.keep 1 (ms' := [vec (.slice none 0 0) 9 1 0 []]) rfl) (Sub.refl _)), (by simp [Sml]), hP⟩
    ·
     replace hP := hP.1 ht3
     refine wp_skip (then_n (dr (fun z => St ⟨w, σ, []⟩ z σ3 [blk b4 79 [(.string x1_.1), (.string x1_.2)], blk b3 126 [(.map (some b2))], vec v6 9 1 ((cpt r1_).length) ((cpt r1_).flatMap encTx), vec v4 9 1 ((srt nodes_p).length) ((srt nodes_p).flatMap encTx)]) (by kernel_rfl) rfl ?_))
     have hS25 := hS23.drew
     refine dt 0 1 (v := (.map (some b2))) (by kernel_rfl) rfl rfl (fun _ _ _ h => h) (hS25.sublist (.cons_cons _ (.cons _ (.cons_cons _ (.cons_cons _ (.cons_cons _ (List.nil_sublist _))))))) (fun _ hJ _ hK => o_load (v := (.map (some b2))) rfl Tryz.isAgg126 (hJ.cell (i := 1) rfl rfl) ⟨rfl, hK⟩) (dt 1 3 (v := (.pointer (some ⟨b4, 0, none⟩))) (by kernel_rfl) rfl rfl (fun _ _ _ h => h) (hS25.sublist (.cons_cons _ (.cons _ (.cons_cons _ (.cons_cons _ (.cons_cons _ (List.nil_sublist _))))))) (fun _ _ _ hK => o_faddr (a' := ⟨b4, 0, none⟩) rfl Tryz.underlying79 rfl Tryz.sizeOf9 rfl ⟨rfl, hK⟩) (dt 2 7 (v := (.string x1_.1)) (by kernel_rfl) rfl rfl (fun _ _ _ h => h) (hS25.sublist (.cons_cons _ (.cons _ (.cons_cons _ (.cons_cons _ (.cons_cons _ (List.nil_sublist _))))))) (fun _ hJ _ hK => o_load (v := (.string x1_.1)) rfl Tryz.isAgg9 (hJ.cell (i := 0) rfl rfl) ⟨rfl, hK⟩) (dt 3 15 (v := (.map (some b2))) (by kernel_rfl) rfl rfl (fun _ _ _ h => h) (hS25.sublist (.cons_cons _ (.cons _ (.cons_cons _ (.cons_cons _ (.cons_cons _ (List.nil_sublist _))))))) (fun _ hJ _ hK => o_load (v := (.map (some b2))) rfl Tryz.isAgg126 (hJ.cell (i := 1) rfl rfl) ⟨rfl, hK⟩) (dt 4 31 (v := (.pointer (some ⟨b4, 0, none⟩))) (by kernel_rfl) rfl rfl (fun _ _ _ h => h) (hS25.sublist (.cons_cons _ (.cons _ (.cons_cons _ (.cons_cons _ (.cons_cons _ (List.nil_sublist _))))))) (fun _ _ _ hK => o_faddr (a' := ⟨b4, 0, none⟩) rfl Tryz.underlying79 rfl Tryz.sizeOf9 rfl ⟨rfl, hK⟩) (dt 5 63 (v := (.string x1_.1)) (by kernel_rfl) rfl rfl (fun _ _ _ h => h) (hS25.sublist (.cons_cons _ (.cons _ (.cons_cons _ (.cons_cons _ (.cons_cons _ (List.nil_sublist _))))))) (fun _ hJ _ hK => o_load (v := (.string x1_.1)) rfl Tryz.isAgg9 (hJ.cell (i := 0) rfl rfl) ⟨rfl, hK⟩) (dt 7 191 (v := (.pointer (some ⟨b4, 1, none⟩))) (by kernel_rfl) rfl rfl (fun _ _ _ h => h) (hS25.sublist (.cons_cons _ (.cons _ (.cons_cons _ (.cons_cons _ (.cons_cons _ (List.nil_sublist _))))))) (fun _ _ _ hK => o_faddr (a' := ⟨b4, 1, none⟩) rfl Tryz.underlying79 rfl Tryz.sizeOf9 rfl ⟨rfl, hK⟩) (dt 8 447 (v := (.string x1_.2)) (by kernel_rfl) rfl rfl (fun _ _ _ h => h) (hS25.sublist (.cons_cons _ (.cons _ (.cons_cons _ (.cons_cons _ (.cons_cons _ (List.nil_sublist _))))))) (fun _ hJ _ hK => o_load (v := (.string x1_.2)) rfl Tryz.isAgg9 (hJ.cell (i := 0) rfl rfl) ⟨rfl, hK⟩) ?_)))))))
     refine d2 6 9 511 959 (by kernel_rfl) rfl rfl rfl rfl ?_ ?_
     ·
      obtain ⟨v7, hv1⟩ : ∃ v, (asl es2 x1_.1).getD (.slice none 0 0) = v := ⟨_, rfl⟩
      refine o_look (i := 1) (v := v7) hS25 rfl rfl rfl Tryz.underlying126 Tryz.underlying9 Tryz.zeroValue30 hv1 (wpList_nil ?_)
      refine ⟨rfl, (hS25.sublist (.cons_cons _ (.cons _ (.cons_cons _ (.cons_cons _ (.cons_cons _ (List.nil_sublist _))))))), ?_⟩
      refine d1 9 1023 (by kernel_rfl) rfl (o_bslice (cs := [(.string x1_.2)]) (e := 9) hS25 (fun _ => by kernel_rfl) ?_)
      intro b5 w14 hS26
      refine wpList_nil ?_
      refine ⟨rfl, (hS26.sublist (.cons _ (.cons_cons _ (.cons _ (.cons_cons _ (.cons_cons _ (.cons_cons _ (List.nil_sublist _)))))))), ?_⟩
      refine d1 10 2047 (by kernel_rfl) rfl ?_
      obtain ⟨es3, hS27, hL1, hl3⟩ := St.borrow (ms := [blk b5 9 [(.string x1_.2)], blk b4 79 [(.string x1_.1), (.string x1_.2)], smap b2 (asl es2), blk b3 126 [(.map (some b2))], vec v6 9 1 ((cpt r1_).length) ((cpt r1_).flatMap encTx), vec v4 9 1 ((srt nodes_p).length) ((srt nodes_p).flatMap encTx)]) hS26 hF2 x1_.1 hv1
      obtain ⟨hsm3, hP⟩ := hP
      refine o_app (Ms := fun v8 => (vec v8 9 1 ((((F_2 x1_.1).getD []) ++ [x1_.2]).length) ((((F_2 x1_.1).getD []) ++ [x1_.2]).flatMap encTx) :: blk b5 9 [(.string x1_.2)] :: blk b4 79 [(.string x1_.1), (.string x1_.2)] :: smap b2 (asl es2) :: blk b3 126 [(.map (some b2))] :: vec v6 9 1 ((cpt r1_).length) ((cpt r1_).flatMap encTx) :: vec v4 9 1 ((srt nodes_p).length) ((srt nodes_p).flatMap encTx) :: elems 9 1 encTx es3)) (k' := (((F_2 x1_.1).getD []) ++ [x1_.2]).length) (xs' := (((F_2 x1_.1).getD []) ++ [x1_.2]).flatMap encTx) Tryz.underlying30 Tryz.type9 rfl rfl (bytes := 16) rfl rfl (Nat.succ_pos _) hS27 rfl (q := 0) rfl rfl rfl (blk_row (hS27.get (i := 1) rfl)) (ones rfl) hsm3 (by omega) (by first | rfl | exact List.length_append.symm | simp) (by simp [encTx]) (fun _ => rfl) ?_
      intro v8 w15 ho5 hS28
      have hS29 := hS28.drop 1 (ms' := (vec v8 9 1 ((((F_2 x1_.1).getD []) ++ [x1_.2]).length) ((((F_2 x1_.1).getD []) ++ [x1_.2]).flatMap encTx) :: blk b4 79 [(.string x1_.1), (.string x1_.2)] :: smap b2 (asl es2) :: blk b3 126 [(.map (some b2))] :: vec v6 9 1 ((cpt r1_).length) ((cpt r1_).flatMap encTx) :: vec v4 9 1 ((srt nodes_p).length) ((srt nodes_p).flatMap encTx) :: elems 9 1 encTx es3)) rfl
      refine wpList_nil ?_
      refine ⟨rfl, (hS29.sublist (.cons _ (.cons_cons _ (.cons _ (.cons_cons _ (.cons_cons _ (.cons_cons _ (List.nil_sublist _)))))))), ?_⟩
      refine d1 11 4095 (by kernel_rfl) rfl (o_put (v := v8) (i := 2) (ms' := (vec v8 9 1 ((((F_2 x1_.1).getD []) ++ [x1_.2]).length) ((((F_2 x1_.1).getD []) ++ [x1_.2]).flatMap encTx) :: blk b4 79 [(.string x1_.1), (.string x1_.2)] :: smap b2 (fun k' => if k' = x1_.1 then some v8 else asl es2 k') :: blk b3 126 [(.map (some b2))] :: vec v6 9 1 ((cpt r1_).length) ((cpt r1_).flatMap encTx) :: vec v4 9 1 ((srt nodes_p).length) ((srt nodes_p).flatMap encTx) :: elems 9 1 encTx es3)) hS29 rfl rfl rfl rfl Tryz.underlying126 Tryz.underlying9 rfl ?_)
      intro w16 hS30
      have hS32 := St.giveback (ms := [blk b4 79 [(.string x1_.1), (.string x1_.2)], smap b2 (fun k' => if k' = x1_.1 then some v8 else asl es2 k'), blk b3 126 [(.map (some b2))], vec v6 9 1 ((cpt r1_).length) ((cpt r1_).flatMap encTx), vec v4 9 1 ((srt nodes_p).length) ((srt nodes_p).flatMap encTx)]) (ms' := [blk b4 79 [(.string x1_.1), (.string x1_.2)], smap b2 (asl ((x1_.1, v8, ((F_2 x1_.1).getD []) ++ [x1_.2]) :: es3)), blk b3 126 [(.map (some b2))], vec v6 9 1 ((cpt r1_).length) ((cpt r1_).flatMap encTx), vec v4 9 1 ((srt nodes_p).length) ((srt nodes_p).flatMap encTx)]) (i := 1) hS30 hL1 rfl rfl
      have hF3 := ELF.put (v := v8) hF2 hL1 hsm3
      refine wpList_nil ?_
      refine ⟨rfl, (hS32.sublist (.cons_cons _ (.cons _ (.cons_cons _ (.cons_cons _ (.cons_cons _ (List.nil_sublist _))))))), wpJ_weak (J' := fun z => St ⟨w, σ, []⟩ z σ3 (blk b4 79 [(.string x1_.1), (.string x1_.2)] :: smap b2 (asl ((x1_.1, v8, ((F_2 x1_.1).getD []) ++ [x1_.2]) :: es3)) :: blk b3 126 [(.map (some b2))] :: vec v6 9 1 ((cpt r1_).length) ((cpt r1_).flatMap encTx) :: vec v4 9 1 ((srt nodes_p).length) ((srt nodes_p).flatMap encTx) :: elems 9 1 encTx ((x1_.1, v8, ((F_2 x1_.1).getD []) ++ [x1_.2]) :: es3))) (fun w h => h.sublist (.cons_cons _ (.cons _ (.cons_cons _ (.cons_cons _ (.cons_cons _ (List.nil_sublist _))))))) _ _ _ _ ?_⟩
      refine dz (by kernel_rfl) (blk_n (then_n (one_reg (o_add (r := ((k_3 + 1 : Nat) : Int)) rfl rfl (nw (by omega) (by omega) (by have := hlen3; omega)) (o_move (v := (.int .i64 ((k_3 + 1 : Nat) : Int))) rfl (wpList_nil (then_n ?_)))))))
      exact ⟨k_3 + 1, (put F_2 x1_.1 (((F_2 x1_.1).getD []) ++ [x1_.2])), _, rfl, hP, ((x1_.1, v8, ((F_2 x1_.1).getD []) ++ [x1_.2]) :: es3), σ3, _, (upd_in rfl (upd_in rfl (upd_in rfl (upd_in rfl (upd_in rfl rfl))))), (hS32.sublist (ms' := (smap b2 (asl ((x1_.1, v8, ((F_2 x1_.1).getD []) ++ [x1_.2]) :: es3)) :: blk b3 126 [(.map (some b2))] :: vec v6 9 1 ((cpt r1_).length) ((cpt r1_).flatMap encTx) :: vec v4 9 1 ((srt nodes_p).length) ((srt nodes_p).flatMap encTx) :: elems 9 1 encTx ((x1_.1, v8, ((F_2 x1_.1).getD []) ++ [x1_.2]) :: es3))) (.cons _ (List.Sublist.refl _))), hsub3, hF3⟩
     ·
      refine o_bslice (cs := [(.string x1_.2)]) (e := 9) hS25 (fun _ => by kernel_rfl) ?_
      intro b5 w14 hS26
      refine wpList_nil ?_
      refine ⟨rfl, (hS26.sublist (.cons _ (.cons_cons _ (.cons _ (.cons_cons _ (.cons_cons _ (.cons_cons _ (List.nil_sublist _)))))))), ?_⟩
      refine d1 6 1023 (by kernel_rfl) rfl ?_
      obtain ⟨v7, hv1⟩ : ∃ v, (asl es2 x1_.1).getD (.slice none 0 0) = v := ⟨_, rfl⟩
      refine o_look (i := 2) (v := v7) hS26 rfl rfl rfl Tryz.underlying126 Tryz.underlying9 Tryz.zeroValue30 hv1 (wpList_nil ?_)
      refine ⟨rfl, (hS26.sublist (.cons _ (.cons_cons _ (.cons _ (.cons_cons _ (.cons_cons _ (.cons_cons _ (List.nil_sublist _)))))))), ?_⟩
      refine d1 10 2047 (by kernel_rfl) rfl ?_
      obtain ⟨es3, hS27, hL1, hl3⟩ := St.borrow (ms := [blk b5 9 [(.string x1_.2)], blk b4 79 [(.string x1_.1), (.string x1_.2)], smap b2 (asl es2), blk b3 126 [(.map (some b2))], vec v6 9 1 ((cpt r1_).length) ((cpt r1_).flatMap encTx), vec v4 9 1 ((srt nodes_p).length) ((srt nodes_p).flatMap encTx)]) hS26 hF2 x1_.1 hv1
      obtain ⟨hsm3, hP⟩ := hP
      refine o_app (Ms := fun v8 => (vec v8 9 1 ((((F_2 x1_.1).getD []) ++ [x1_.2]).length) ((((F_2 x1_.1).getD []) ++ [x1_.2]).flatMap encTx) :: blk b5 9 [(.string x1_.2)] :: blk b4 79 [(.string x1_.1), (.string x1_.2)] :: smap b2 (asl es2) :: blk b3 126 [(.map (some b2))] :: vec v6 9 1 ((cpt r1_).length) ((cpt r1_).flatMap encTx) :: vec v4 9 1 ((srt nodes_p).length) ((srt nodes_p).flatMap encTx) :: elems 9 1 encTx es3)) (k' := (((F_2 x1_.1).getD []) ++ [x1_.2]).length) (xs' := (((F_2 x1_.1).getD []) ++ [x1_.2]).flatMap encTx) Tryz.underlying30 Tryz.type9 rfl rfl (bytes := 16) rfl rfl (Nat.succ_pos _) hS27 rfl (q := 0) rfl rfl rfl (blk_row (hS27.get (i := 1) rfl)) (ones rfl) hsm3 (by omega) (by first | rfl | exact List.length_append.symm | simp) (by simp [encTx]) (fun _ => rfl) ?_
      intro v8 w15 ho5 hS28
      have hS29 := hS28.drop 1 (ms' := (vec v8 9 1 ((((F_2 x1_.1).getD []) ++ [x1_.2]).length) ((((F_2 x1_.1).getD []) ++ [x1_.2]).flatMap encTx) :: blk b4 79 [(.string x1_.1), (.string x1_.2)] :: smap b2 (asl es2) :: blk b3 126 [(.map (some b2))] :: vec v6 9 1 ((cpt r1_).length) ((cpt r1_).flatMap encTx) :: vec v4 9 1 ((srt nodes_p).length) ((srt nodes_p).flatMap encTx) :: elems 9 1 encTx es3)) rfl
      refine wpList_nil ?_
      refine ⟨rfl, (hS29.sublist (.cons _ (.cons_cons _ (.cons _ (.cons_cons _ (.cons_cons _ (.cons_cons _ (List.nil_sublist _)))))))), ?_⟩
      refine d1 11 4095 (by kernel_rfl) rfl (o_put (v := v8) (i := 2) (ms' := (vec v8 9 1 ((((F_2 x1_.1).getD []) ++ [x1_.2]).length) ((((F_2 x1_.1).getD []) ++ [x1_.2]).flatMap encTx) :: blk b4 79 [(.string x1_.1), (.string x1_.2)] :: smap b2 (fun k' => if k' = x1_.1 then some v8 else asl es2 k') :: blk b3 126 [(.map (some b2))] :: vec v6 9 1 ((cpt r1_).length) ((cpt r1_).flatMap encTx) :: vec v4 9 1 ((srt nodes_p).length) ((srt nodes_p).flatMap encTx) :: elems 9 1 encTx es3)) hS29 rfl rfl rfl rfl Tryz.underlying126 Tryz.underlying9 rfl ?_)
      intro w16 hS30
      have hS32 := St.giveback (ms := [blk b4 79 [(.string x1_.1), (.string x1_.2)], smap b2 (fun k' => if k' = x1_.1 then some v8 else asl es2 k'), blk b3 126 [(.map (some b2))], vec v6 9 1 ((cpt r1_).length) ((cpt r1_).flatMap encTx), vec v4 9 1 ((srt nodes_p).length) ((srt nodes_p).flatMap encTx)]) (ms' := [blk b4 79 [(.string x1_.1), (.string x1_.2)], smap b2 (asl ((x1_.1, v8, ((F_2 x1_.1).getD []) ++ [x1_.2]) :: es3)), blk b3 126 [(.map (some b2))], vec v6 9 1 ((cpt r1_).length) ((cpt r1_).flatMap encTx), vec v4 9 1 ((srt nodes_p).length) ((srt nodes_p).flatMap encTx)]) (i := 1) hS30 hL1 rfl rfl
      have hF3 := ELF.put (v := v8) hF2 hL1 hsm3
      refine wpList_nil ?_
      refine ⟨rfl, (hS32.sublist (.cons_cons _ (.cons _ (.cons_cons _ (.cons_cons _ (.cons_cons _ (List.nil_sublist _))))))), wpJ_weak (J' := fun z => St ⟨w, σ, []⟩ z σ3 (blk b4 79 [(.string x1_.1), (.string x1_.2)] :: smap b2 (asl ((x1_.1, v8, ((F_2 x1_.1).getD []) ++ [x1_.2]) :: es3)) :: blk b3 126 [(.map (some b2))] :: vec v6 9 1 ((cpt r1_).length) ((cpt r1_).flatMap encTx) :: vec v4 9 1 ((srt nodes_p).length) ((srt nodes_p).flatMap encTx) :: elems 9 1 encTx ((x1_.1, v8, ((F_2 x1_.1).getD []) ++ [x1_.2]) :: es3))) (fun w h => h.sublist (.cons_cons _ (.cons _ (.cons_cons _ (.cons_cons _ (.cons_cons _ (List.nil_sublist _))))))) _ _ _ _ ?_⟩
      refine dz (by kernel_rfl) (blk_n (then_n (one_reg (o_add (r := ((k_3 + 1 : Nat) : Int)) rfl rfl (nw (by omega) (by omega) (by have := hlen3; omega)) (o_move (v := (.int .i64 ((k_3 + 1 : Nat) : Int))) rfl (wpList_nil (then_n ?_)))))))
      exact ⟨k_3 + 1, (put F_2 x1_.1 (((F_2 x1_.1).getD []) ++ [x1_.2])), _, rfl, hP, ((x1_.1, v8, ((F_2 x1_.1).getD []) ++ [x1_.2]) :: es3), σ3, _, (upd_in rfl (upd_in rfl (upd_in rfl (upd_in rfl (upd_in rfl rfl))))), (hS32.sublist (ms' := (smap b2 (asl ((x1_.1, v8, ((F_2 x1_.1).getD []) ++ [x1_.2]) :: es3)) :: blk b3 126 [(.map (some b2))] :: vec v6 9 1 ((cpt r1_).length) ((cpt r1_).flatMap encTx) :: vec v4 9 1 ((srt nodes_p).length) ((srt nodes_p).flatMap encTx) :: elems 9 1 encTx ((x1_.1, v8, ((F_2 x1_.1).getD []) ++ [x1_.2]) :: es3))) (.cons _ (List.Sublist.refl _))), hsub3, hF3⟩
   ·
    replace hP := hP.2 (by first | (rw [hb1]; exact Bool.false_ne_true) | simp [hb1])
    refine o_move (v := (.bool true)) (congrArg Value.bool (congrArg Bool.not hb1)) (o_off rfl rfl (o_off rfl rfl (o_off rfl rfl (o_off rfl rfl (o_off rfl rfl (o_pick_t (v := (.bool true)) rfl rfl (wpList_nil (then_n (if_t rfl (seq_reg (o_assign (v := (.slice none 0 0)) rfl (o_assign (v := (.int .i64 (11 : Int))) rfl (wpList_nil (then_n (wp_ret (then_r (blk_r (then_r (then_r (blk_r (then_r (ret2 rfl (show ev _ _ _ = (.slice none 0 0) from rfl) (show ev _ _ _ = (.int .i64 (11 : Int)) from rfl) ?_))))))))))))))))))))))
    have hS33 := hS21.addNil 9 1
    exact ⟨[], (11 : Int), (.slice none 0 0), rfl, (St.back (hS33.keep 1 (ms' := [vec (.slice none 0 0) 9 1 0 []]) rfl) (Sub.refl _)), (by simp [Sml]), hP⟩
  ·
   replace hP := hP.2 ht2
   refine wp_exit (then_e (then_e (blk_hit (then_n (seq_reg (o_assign (v := (.slice none 0 0)) rfl (wpList_nil (then_n (seq_reg (o_emake (fun y : Bool => (Value.bool (y))) hS17 ?_))))))))))
   intro b6 w17 hS34
   refine o_alloc (cs := [(.map none)]) hS34 Tryz.zeroValue127 rfl ?_
   intro b7 w18 hS35
   refine o_store (T := 127) (vs := [(.map (some b6))]) (cs' := [(.map (some b6))]) (ms' := (blk b7 127 [(.map (some b6))] :: emap b6 (fun y : Bool => (Value.bool (y))) (fun _ => none) :: smap b2 (asl es2) :: blk b3 126 [(.map (some b2))] :: vec v6 9 1 ((cpt r1_).length) ((cpt r1_).flatMap encTx) :: vec v4 9 1 ((srt nodes_p).length) ((srt nodes_p).flatMap encTx) :: elems 9 1 encTx es2)) (i := 0) hS35 rfl rfl rfl Tryz.sizeOf127 rfl (ones rfl) rfl (Nat.le_of_ble_eq_true rfl) rfl rfl ?_
   intro w19 hS36
   refine wpList_nil (then_n (wp_seq (wp_block ?_)))
   obtain ⟨σ6, hS37, hsub6, hr9⟩ := St.freezeL (ms := [blk b7 127 [(.map (some b6))], emap b6 (fun y : Bool => (Value.bool (y))) (fun _ => none), smap b2 (asl es2), blk b3 126 [(.map (some b2))], vec v6 9 1 ((cpt r1_).length) ((cpt r1_).flatMap encTx), vec v4 9 1 ((srt nodes_p).length) ((srt nodes_p).flatMap encTx)]) (ms' := [blk b7 127 [(.map (some b6))], emap b6 (fun y : Bool => (Value.bool (y))) (fun _ => none), blk b3 126 [(.map (some b2))], vec v6 9 1 ((cpt r1_).length) ((cpt r1_).flatMap encTx), vec v4 9 1 ((srt nodes_p).length) ((srt nodes_p).flatMap encTx)]) (i := 2) hS36 hF2 encTx_len rfl rfl
   have hS38 := hS37.addNil 9 1
   have hS39 := hS38.front 4 rfl (ms' := [vec v6 9 1 ((cpt r1_).length) ((cpt r1_).flatMap encTx), vec (.slice none 0 0) 9 1 0 [], blk b7 127 [(.map (some b6))], emap b6 (fun y : Bool => (Value.bool (y))) (fun _ => none), blk b3 126 [(.map (some b2))], vec v4 9 1 ((srt nodes_p).length) ((srt nodes_p).flatMap encTx)]) rfl
   have hS40 := hS39.front 4 rfl (ms' := [blk b3 126 [(.map (some b2))], vec v6 9 1 ((cpt r1_).length) ((cpt r1_).flatMap encTx), vec (.slice none 0 0) 9 1 0 [], blk b7 127 [(.map (some b6))], emap b6 (fun y : Bool => (Value.bool (y))) (fun _ => none), vec v4 9 1 ((srt nodes_p).length) ((srt nodes_p).flatMap encTx)]) rfl
   have hS41 := hS40.front 3 rfl (ms' := [blk b7 127 [(.map (some b6))], blk b3 126 [(.map (some b2))], vec v6 9 1 ((cpt r1_).length) ((cpt r1_).flatMap encTx), vec (.slice none 0 0) 9 1 0 [], emap b6 (fun y : Bool => (Value.bool (y))) (fun _ => none), vec v4 9 1 ((srt nodes_p).length) ((srt nodes_p).flatMap encTx)]) rfl
   have hS42 := hS41.front 4 rfl (ms' := [emap b6 (fun y : Bool => (Value.bool (y))) (fun _ => none), blk b7 127 [(.map (some b6))], blk b3 126 [(.map (some b2))], vec v6 9 1 ((cpt r1_).length) ((cpt r1_).flatMap encTx), vec (.slice none 0 0) 9 1 0 [], vec v4 9 1 ((srt nodes_p).length) ((srt nodes_p).flatMap encTx)]) rfl
   have hS43 := hS42.front 4 rfl (ms' := [vec (.slice none 0 0) 9 1 0 [], emap b6 (fun y : Bool => (Value.bool (y))) (fun _ => none), blk b7 127 [(.map (some b6))], blk b3 126 [(.map (some b2))], vec v6 9 1 ((cpt r1_).length) ((cpt r1_).flatMap encTx), vec v4 9 1 ((srt nodes_p).length) ((srt nodes_p).flatMap encTx)]) rfl
   have hS44 := hS43.front 5 rfl (ms' := [vec v4 9 1 ((srt nodes_p).length) ((srt nodes_p).flatMap encTx), vec (.slice none 0 0) 9 1 0 [], emap b6 (fun y : Bool => (Value.bool (y))) (fun _ => none), blk b7 127 [(.map (some b6))], blk b3 126 [(.map (some b2))], vec v6 9 1 ((cpt r1_).length) ((cpt r1_).flatMap encTx)]) rfl
   refine lp_loop3 (fun left_3 out_3 F_4 f z => ∃ (v13 : Value) (v14 : Value) (σ7 : Hv) (g : Fr), f = (upd (upd (upd (upd g 6 v13) 7 (.pointer (some ⟨b3, 0, none⟩))) 10 v14) 11 (.pointer (some ⟨b7, 0, none⟩))) ∧ St ⟨w, σ, []⟩ z σ7 [vec v13 9 1 left_3.length ((left_3).flatMap encTx), vec v14 9 1 out_3.length ((out_3).flatMap encTx), emap b6 (fun y : Bool => (Value.bool (y))) F_4, blk b7 127 [(.map (some b6))], blk b3 126 [(.map (some b2))], vec v6 9 1 ((cpt r1_).length) ((cpt r1_).flatMap encTx)] ∧ Sub σ6 σ7 ∧ v13.oneCell' = true ∧ Sml left_3.length ∧ v14.oneCell' = true ∧ Sml out_3.length) hP ⟨v4, (.slice none 0 0), σ6, _, (upd_in rfl (upd_in rfl (upd_in rfl (upd_in rfl rfl)))), hS44, (Sub.refl _), (vec_one ho1.1), (show Sml (srt nodes_p).length by rw [srt_length]; exact hsm1), rfl, (by simp [Sml])⟩ ?_
   clear hP
   rintro left_3 out_3 F_4 Y5 hP f w20 ⟨v13, v14, σ7, g, rfl, hS45, hsub7, ho10, hl8, ho11, hl9⟩
   refine wp_seq (seq_reg (o_move (v := v13) rfl (o_len_vec hS45 rfl (i := 0) rfl Tryz.underlying30 ?_)))
   have hlen4 : left_3.length ≤ 9223372036854775807 := by have := hl8; unfold Sml at this; omega
   replace hP := hP hlen4
   refine o_gtr (r := (decide ((0 : Int) < ((left_3.length : Nat) : Int)))) rfl rfl rfl (wpList_nil (then_n ?_))
   refine if_d ((0 : Int) < ((left_3.length : Nat) : Int)) rfl (fun ht4 => ?_) (fun ht4 => ?_)
   ·
    replace hP := hP.1 ht4
    refine wp_skip (then_n (wp_block (seq_reg (o_move (v := v13) rfl (o_makefunc (la := []) (lb := [(.pointer (some ⟨b3, 0, none⟩)), (.pointer (some ⟨b7, 0, none⟩))]) rfl rfl ?_)))))
    obtain ⟨Y6, hK4, hP⟩ := hP
    refine o_call (args := [v13, (.func (.func 63) #[] #[(.pointer (some ⟨b3, 0, none⟩)), (.pointer (some ⟨b7, 0, none⟩))])]) rfl Tryz.call62 (Calls.mono (R := fun e z => ∃ (r_1 : Int) (σ8 : Hv), e = .returned (.int .i64 r_1) ∧ Y6 r_1 ∧ St ⟨w, σ, []⟩ z σ8 [vec v13 9 1 left_3.length ((left_3).flatMap encTx), vec v14 9 1 out_3.length ((out_3).flatMap encTx), emap b6 (fun y : Bool => (Value.bool (y))) F_4, blk b7 127 [(.map (some b6))], blk b3 126 [(.map (some b2))], vec v6 9 1 ((cpt r1_).length) ((cpt r1_).flatMap encTx)] ∧ Sub σ7 σ8) ?_ ?_)
    ·
     refine enter Tryz.func62 rfl rfl rfl ?_
     refine seq_reg (o_assign (v := (.int .i64 (0 : Int))) rfl (wpList_nil (then_n (wp_seq (seq_reg (o_move (v := v13) rfl (o_len_vec hS45 rfl (i := 0) rfl Tryz.underlying30 (o_move (v := (.int .i64 (0 : Int))) rfl (wpList_nil (then_n (wp_block ?_)))))))))))
     refine lp_loop1 (fun k_5 f z => ∃ (σ9 : Hv) (g : Fr), f = (upd (upd (upd (upd g 0 v13) 1 (.func (.func 63) #[] #[(.pointer (some ⟨b3, 0, none⟩)), (.pointer (some ⟨b7, 0, none⟩))])) 7 (.int .i64 ((left_3.length : Nat) : Int))) 8 (.int .i64 ((k_5 : Nat) : Int))) ∧ St ⟨w, σ, []⟩ z σ9 [vec v13 9 1 left_3.length ((left_3).flatMap encTx), vec v14 9 1 out_3.length ((out_3).flatMap encTx), emap b6 (fun y : Bool => (Value.bool (y))) F_4, blk b7 127 [(.map (some b6))], blk b3 126 [(.map (some b2))], vec v6 9 1 ((cpt r1_).length) ((cpt r1_).flatMap encTx)] ∧ Sub σ7 σ9) hP ⟨σ7, _, (upd_in rfl (upd_in rfl (upd_in rfl (upd_in rfl rfl)))), hS45, (Sub.refl _)⟩ ?_
     clear hP
     rintro k_5 Y7 hP f w21 ⟨σ9, g, rfl, hS46, hsub9⟩
     refine seq_reg (o_lss (r := (decide (((k_5 : Nat) : Int) < ((left_3.length : Nat) : Int)))) rfl rfl rfl (wpList_nil (then_n (wp_seq ?_))))
     refine if_d (((k_5 : Nat) : Int) < ((left_3.length : Nat) : Int)) rfl (fun ht5 => ?_) (fun ht5 => ?_)
     ·
      replace hP := hP.1 ht5
      refine wp_skip (then_n (wp_seq (wp_block (seq_reg (o_move (v := (.int .i64 ((k_5 : Nat) : Int))) rfl (o_assign (v := (.int .i64 ((k_5 : Nat) : Int))) rfl (wpList_nil (then_n (seq_reg (o_move (v := (.func (.func 63) #[] #[(.pointer (some ⟨b3, 0, none⟩)), (.pointer (some ⟨b7, 0, none⟩))])) rfl (o_move (v := v13) rfl (o_move (v := (.int .i64 ((k_5 : Nat) : Int))) rfl ?_))))))))))))
      obtain ⟨x2_, hx2⟩ := getq (l := left_3) (k := k_5) (by have := ht5; omega)
      replace hP := hP x2_ hx2
      obtain ⟨g1, cp1, hv2⟩ := vec_posv (hS46.get (i := 0) rfl) (lt_of_getq hx2)
      refine o_iaddr_slice (k := k_5) (a' := ⟨g1, k_5 * 1, none⟩) hv2 rfl rfl (lt_of_getq hx2) Tryz.underlying30 Tryz.sizeOf9 (by simp [addr_lit]) (o_load (v := (.string x2_)) rfl Tryz.isAgg9 (vec_cellv encTx_len (j := 0) hv2 (hS46.get (i := 0) rfl) hx2 rfl) (o_callv (args := [(.string x2_), (.pointer (some ⟨b3, 0, none⟩)), (.pointer (some ⟨b7, 0, none⟩))]) rfl rfl Tryz.call63 ?_))
      refine enter Tryz.func63 rfl rfl rfl ?_
      refine seq_reg (o_assign (v := (.bool false)) rfl (wpList_nil (then_n (seq_reg (o_load (v := (.map (some b2))) rfl Tryz.isAgg126 (hS46.cell (i := 4) rfl rfl) (o_move (v := (.string x2_)) rfl ?_))))))
      obtain ⟨v15, hl10, hz1⟩ := RMp.at (z := .slice none 0 0) (z0 := []) RSl.nil hr9 x2_
      obtain ⟨a3, cap3, rfl⟩ := hz1.shape
      refine o_lookR (v := (.slice a3 ((F_2 x2_).getD []).length cap3)) hl10 (View.of (Sub.trans hsub7 hsub9) hS46.view) rfl rfl Tryz.underlying126 Tryz.underlying9 Tryz.zeroValue30 (o_makefunc (la := []) (lb := [(.pointer (some ⟨b7, 0, none⟩))]) rfl rfl (o_call (args := [(.slice a3 ((F_2 x2_).getD []).length cap3), (.func (.func 65) #[] #[(.pointer (some ⟨b7, 0, none⟩))])]) rfl Tryz.call64 ?_))
      refine enter Tryz.func64 rfl rfl rfl ?_
      refine seq_reg (o_assign (v := (.bool false)) rfl (wpList_nil (then_n (seq_reg (o_move (v := (.slice a3 ((F_2 x2_).getD []).length cap3)) rfl (o_move (v := (.func (.func 65) #[] #[(.pointer (some ⟨b7, 0, none⟩))])) rfl ?_))))))
      obtain ⟨Y8, hK5, hP⟩ := hP
      refine o_call (args := [(.slice a3 ((F_2 x2_).getD []).length cap3), (.func (.func 65) #[] #[(.pointer (some ⟨b7, 0, none⟩))])]) rfl Tryz.call62 (Calls.mono (R := fun e z => ∃ (r_2 : Int) (σ10 : Hv), e = .returned (.int .i64 r_2) ∧ Y8 r_2 ∧ St ⟨w, σ, []⟩ z σ10 [vec v13 9 1 left_3.length ((left_3).flatMap encTx), vec v14 9 1 out_3.length ((out_3).flatMap encTx), emap b6 (fun y : Bool => (Value.bool (y))) F_4, blk b7 127 [(.map (some b6))], blk b3 126 [(.map (some b2))], vec v6 9 1 ((cpt r1_).length) ((cpt r1_).flatMap encTx)] ∧ Sub σ9 σ10) ?_ ?_)
      ·
       refine enter Tryz.func62 rfl rfl rfl ?_
       refine seq_reg (o_assign (v := (.int .i64 (0 : Int))) rfl (wpList_nil (then_n (wp_seq (seq_reg (o_move (v := (.slice a3 ((F_2 x2_).getD []).length cap3)) rfl (o_len_slice rfl Tryz.underlying30 ?_)))))))
       have hlen6 := RSl.len63 hz1
       replace hP := hP hlen6
       refine o_move (v := (.int .i64 (0 : Int))) rfl (wpList_nil (then_n (wp_block ?_)))
       refine lp_loop1 (fun k_7 f z => ∃ (σ11 : Hv) (g : Fr), f = (upd (upd (upd (upd g 0 (.slice a3 ((F_2 x2_).getD []).length cap3)) 1 (.func (.func 65) #[] #[(.pointer (some ⟨b7, 0, none⟩))])) 7 (.int .i64 ((((F_2 x2_).getD []).length : Nat) : Int))) 8 (.int .i64 ((k_7 : Nat) : Int))) ∧ St ⟨w, σ, []⟩ z σ11 [vec v13 9 1 left_3.length ((left_3).flatMap encTx), vec v14 9 1 out_3.length ((out_3).flatMap encTx), emap b6 (fun y : Bool => (Value.bool (y))) F_4, blk b7 127 [(.map (some b6))], blk b3 126 [(.map (some b2))], vec v6 9 1 ((cpt r1_).length) ((cpt r1_).flatMap encTx)] ∧ Sub σ9 σ11) hP ⟨σ9, _, (upd_in rfl (upd_in rfl (upd_in rfl (upd_in rfl rfl)))), hS46, (Sub.refl _)⟩ ?_
       clear hP
       rintro k_7 Y9 hP f w22 ⟨σ11, g, rfl, hS47, hsub11⟩
       refine seq_reg (o_lss (r := (decide (((k_7 : Nat) : Int) < ((((F_2 x2_).getD []).length : Nat) : Int)))) rfl rfl rfl (wpList_nil (then_n (wp_seq ?_))))
       refine if_d (((k_7 : Nat) : Int) < ((((F_2 x2_).getD []).length : Nat) : Int)) rfl (fun ht6 => ?_) (fun ht6 => ?_)
       ·
        replace hP := hP.1 ht6
        refine wp_skip (then_n (wp_seq (wp_block (seq_reg (o_move (v := (.int .i64 ((k_7 : Nat) : Int))) rfl (o_assign (v := (.int .i64 ((k_7 : Nat) : Int))) rfl (wpList_nil (then_n (seq_reg (o_move (v := (.func (.func 65) #[] #[(.pointer (some ⟨b7, 0, none⟩))])) rfl (o_move (v := (.slice a3 ((F_2 x2_).getD []).length cap3)) rfl (o_move (v := (.int .i64 ((k_7 : Nat) : Int))) rfl ?_))))))))))))
        obtain ⟨x3_, hx3⟩ := getq (l := ((F_2 x2_).getD [])) (k := k_7) (by have := ht6; omega)
        replace hP := hP x3_ hx3
        obtain ⟨ad2, cs2, ha2, hl11, hr10, hR2, hlt2⟩ := RSl.at hz1 hx3
        cases hR2
        refine o_iaddr_slice (k := k_7) (a' := (ad2.add (k_7 * 1))) (congrArg (fun z => Value.slice z _ _) ha2) rfl rfl hlt2 Tryz.underlying30 Tryz.sizeOf9 rfl (o_load (v := (.string x3_)) rfl Tryz.isAgg9 (hr10.cell (View.of (Sub.trans (Sub.trans hsub7 hsub9) hsub11) hS47.view) 0 rfl rfl) (o_callv (args := [(.string x3_), (.pointer (some ⟨b7, 0, none⟩))]) rfl rfl Tryz.call65 ?_))
        refine enter Tryz.func65 rfl rfl rfl ?_
        refine seq_reg (o_assign (v := (.bool false)) rfl (wpList_nil (then_n (seq_reg (o_load (v := (.map (some b6))) rfl Tryz.isAgg127 (hS47.cell (i := 3) rfl rfl) (o_move (v := (.string x3_)) rfl (o_elook (v := (.bool (((F_4 x3_).getD false)))) (i := 2) hS47 rfl rfl rfl Tryz.underlying127 Tryz.underlying9 Tryz.zeroValue4 (getD_enc (fun y : Bool => (Value.bool (y))) _ rfl) (o_not (r := (!((F_4 x3_).getD false))) rfl rfl (o_assign (v := (.bool (!((F_4 x3_).getD false)))) rfl (wpList_nil (then_n (wp_ret (ret1 rfl (show ev _ _ _ = (.bool (!((F_4 x3_).getD false))) from rfl) ?_)))))))))))))
        refine ⟨_, rfl, ?_⟩
        refine wpList_nil (then_n ?_)
        refine if_nb rfl (fun ht7 => ?_) (fun ht7 => ?_)
        ·
         replace hP := hP.2 (by first | (rw [ht7]; exact Bool.false_ne_true) | simp [ht7])
         refine seq_reg (o_move (v := (.int .i64 ((k_7 : Nat) : Int))) rfl (o_assign (v := (.int .i64 ((k_7 : Nat) : Int))) rfl (wpList_nil (then_n (wp_ret (blk_r (then_r (then_r (blk_r (then_r (ret1 rfl (show ev _ _ _ = (.int .i64 ((k_7 : Nat) : Int)) from rfl) ?_)))))))))))
         exact ⟨((k_7 : Nat) : Int), σ11, rfl, hP, hS47, hsub11⟩
        ·
         replace hP := hP.1 ht7
         refine wp_skip (blk_n (then_n (one_reg (o_add (r := ((k_7 + 1 : Nat) : Int)) rfl rfl (nw (by omega) (by omega) (by have := hlen6; omega)) (o_move (v := (.int .i64 ((k_7 + 1 : Nat) : Int))) rfl (wpList_nil (then_n ?_)))))))
         exact ⟨k_7 + 1, _, rfl, hP, σ11, _, (upd_in rfl (upd_in rfl (upd_in rfl (upd_in rfl rfl)))), hS47, hsub11⟩
       ·
        replace hP := hP.2 ht6
        refine wp_exit (then_e (then_e (blk_hit (then_n (seq_reg (o_assign (v := (.int .i64 (-1 : Int))) rfl (wpList_nil (then_n (wp_ret (ret1 rfl (show ev _ _ _ = (.int .i64 (-1 : Int)) from rfl) ?_))))))))))
        exact ⟨(-1 : Int), σ11, rfl, hP, hS47, hsub11⟩
      ·
       rintro _ w23 ⟨r_2, σ10, rfl, hY4, hS48, hsub10⟩
       refine ⟨_, rfl, ?_⟩
       replace hP := hK5 r_2 hY4
       refine o_geq (r := (decide ((0 : Int) ≤ r_2))) rfl rfl rfl (o_assign (v := (.bool (decide ((0 : Int) ≤ r_2)))) rfl (wpList_nil (then_n (wp_ret (ret1 rfl (show ev _ _ _ = (.bool (decide ((0 : Int) ≤ r_2))) from rfl) ?_)))))
       refine ⟨_, rfl, ?_⟩
       refine o_not (r := (!decide ((0 : Int) ≤ r_2))) rfl rfl (o_assign (v := (.bool (!decide ((0 : Int) ≤ r_2)))) rfl (wpList_nil (then_n (wp_ret (ret1 rfl (show ev _ _ _ = (.bool (!decide ((0 : Int) ≤ r_2))) from rfl) ?_)))))
       refine ⟨_, rfl, ?_⟩
       refine wpList_nil (then_n ?_)
       refine if_nd ((0 : Int) ≤ r_2) rfl (fun ht8 => ?_) (fun ht8 => ?_)
       ·
        replace hP := hP.2 ht8
        refine seq_reg (o_move (v := (.int .i64 ((k_5 : Nat) : Int))) rfl (o_assign (v := (.int .i64 ((k_5 : Nat) : Int))) rfl (wpList_nil (then_n (wp_ret (blk_r (then_r (then_r (blk_r (then_r (ret1 rfl (show ev _ _ _ = (.int .i64 ((k_5 : Nat) : Int)) from rfl) ?_)))))))))))
        exact ⟨((k_5 : Nat) : Int), σ10, rfl, hP, hS48, (Sub.trans hsub9 hsub10)⟩
       ·
        replace hP := hP.1 ht8
        refine wp_skip (blk_n (then_n (one_reg (o_add (r := ((k_5 + 1 : Nat) : Int)) rfl rfl (nw (by omega) (by omega) (by have := hlen4; omega)) (o_move (v := (.int .i64 ((k_5 + 1 : Nat) : Int))) rfl (wpList_nil (then_n ?_)))))))
        exact ⟨k_5 + 1, _, rfl, hP, σ10, _, (upd_in rfl (upd_in rfl (upd_in rfl (upd_in rfl rfl)))), hS48, (Sub.trans hsub9 hsub10)⟩
     ·
      replace hP := hP.2 ht5
      refine wp_exit (then_e (then_e (blk_hit (then_n (seq_reg (o_assign (v := (.int .i64 (-1 : Int))) rfl (wpList_nil (then_n (wp_ret (ret1 rfl (show ev _ _ _ = (.int .i64 (-1 : Int)) from rfl) ?_))))))))))
      exact ⟨(-1 : Int), σ9, rfl, hP, hS46, hsub9⟩
    ·
     rintro _ w24 ⟨r_1, σ8, rfl, hY5, hS49, hsub8⟩
     refine ⟨_, rfl, ?_⟩
     replace hP := hK4 r_1 hY5
     refine o_assign (v := (.int .i64 r_1)) rfl (wpList_nil (then_n (wp_seq (seq_reg (o_move (v := (.int .i64 r_1)) rfl (o_lss (r := (decide (r_1 < (0 : Int)))) rfl rfl rfl (wpList_nil (then_n ?_))))))))
     refine if_d (r_1 < (0 : Int)) rfl (fun ht9 => ?_) (fun ht9 => ?_)
     ·
      replace hP := hP.1 ht9
      refine seq_reg (o_assign (v := (.slice none 0 0)) rfl (o_assign (v := (.int .i64 (12 : Int))) rfl (wpList_nil (then_n (wp_ret (then_r (blk_r (then_r (blk_r (then_r (ret2 rfl (show ev _ _ _ = (.slice none 0 0) from rfl) (show ev _ _ _ = (.int .i64 (12 : Int)) from rfl) ?_)))))))))))
      have hS50 := hS49.addNil 9 1
      exact ⟨[], (12 : Int), (.slice none 0 0), rfl, (St.back (hS50.keep 1 (ms' := [vec (.slice none 0 0) 9 1 0 []]) rfl) (Sub.refl _)), (by simp [Sml]), hP⟩
     ·
      replace hP := hP.2 ht9
      refine wp_skip (then_n (seq_reg (o_move (v := v14) rfl (o_move (v := v13) rfl (o_move (v := (.int .i64 r_1)) rfl ?_)))))
      obtain ⟨j1_, hj1, hP⟩ := hP
      obtain ⟨x4_, hx4, hP⟩ := hP
      obtain ⟨g2, cp2, hv3⟩ := vec_posv (hS49.get (i := 0) rfl) (lt_of_getq hx4)
      refine o_iaddr_slice (k := j1_) (a' := ⟨g2, j1_ * 1, none⟩) hv3 rfl hj1 (lt_of_getq hx4) Tryz.underlying30 Tryz.sizeOf9 (by simp [addr_lit]) (o_load (v := (.string x4_)) rfl Tryz.isAgg9 (vec_cellv encTx_len (j := 0) hv3 (hS49.get (i := 0) rfl) hx4 rfl) (o_bslice (cs := [(.string x4_)]) (e := 9) hS49 (fun _ => by kernel_rfl) ?_))
      intro b8 w25 hS51
      obtain ⟨hsm4, hP⟩ := hP
      refine o_app (Ms := fun v16 => [blk b8 9 [(.string x4_)], vec v13 9 1 left_3.length ((left_3).flatMap encTx), vec v16 9 1 ((out_3 ++ [x4_]).length) ((out_3 ++ [x4_]).flatMap encTx), emap b6 (fun y : Bool => (Value.bool (y))) F_4, blk b7 127 [(.map (some b6))], blk b3 126 [(.map (some b2))], vec v6 9 1 ((cpt r1_).length) ((cpt r1_).flatMap encTx)]) (k' := (out_3 ++ [x4_]).length) (xs' := (out_3 ++ [x4_]).flatMap encTx) Tryz.underlying30 Tryz.type9 rfl rfl (bytes := 16) rfl rfl (Nat.succ_pos _) hS51 rfl (q := 2) rfl rfl rfl (blk_row (hS51.get (i := 0) rfl)) (ones rfl) hsm4 (by omega) (by first | rfl | exact List.length_append.symm | simp) (by simp [encTx]) (fun _ => rfl) ?_
      intro v16 w26 ho12 hS52
      have hS53 := hS52.drop 0 (ms' := [vec v13 9 1 left_3.length ((left_3).flatMap encTx), vec v16 9 1 ((out_3 ++ [x4_]).length) ((out_3 ++ [x4_]).flatMap encTx), emap b6 (fun y : Bool => (Value.bool (y))) F_4, blk b7 127 [(.map (some b6))], blk b3 126 [(.map (some b2))], vec v6 9 1 ((cpt r1_).length) ((cpt r1_).flatMap encTx)]) rfl
      refine o_assign (v := v16) rfl (wpList_nil (then_n (wp_seq (dr (fun z => St ⟨w, σ, []⟩ z σ8 [vec v13 9 1 left_3.length ((left_3).flatMap encTx), vec v16 9 1 ((out_3 ++ [x4_]).length) ((out_3 ++ [x4_]).flatMap encTx), blk b7 127 [(.map (some b6))], blk b3 126 [(.map (some b2))], vec v6 9 1 ((cpt r1_).length) ((cpt r1_).flatMap encTx)]) (by kernel_rfl) rfl ?_))))
      have hS54 := hS53.drew
      refine dt 0 1 (v := (.map (some b6))) (by kernel_rfl) rfl rfl (fun _ _ _ h => h) (hS54.sublist (.cons_cons _ (.cons_cons _ (.cons _ (List.Sublist.refl _))))) (fun _ hJ _ hK => o_load (v := (.map (some b6))) rfl Tryz.isAgg127 (hJ.cell (i := 2) rfl rfl) ⟨rfl, hK⟩) (dt 1 3 (v := v13) (by kernel_rfl) rfl rfl (fun _ _ _ h => h) (hS54.sublist (.cons_cons _ (.cons_cons _ (.cons _ (List.Sublist.refl _))))) (fun _ _ _ hK => o_move (v := v13) rfl ⟨rfl, hK⟩) (dt 2 7 (v := (.int .i64 r_1)) (by kernel_rfl) rfl rfl (fun _ _ _ h => h) (hS54.sublist (.cons_cons _ (.cons_cons _ (.cons _ (List.Sublist.refl _))))) (fun _ _ _ hK => o_move (v := (.int .i64 r_1)) rfl ⟨rfl, hK⟩) ?_))
      obtain ⟨j2_, hj2, hP⟩ := hP
      obtain ⟨x5_, hx5, hP⟩ := hP
      obtain ⟨g3, cp3, hv4⟩ := vec_posv (hS54.get (i := 0) rfl) (lt_of_getq hx5)
      refine dt 3 15 (v := (.pointer (some ⟨g3, j2_ * 1, none⟩))) (by kernel_rfl) rfl rfl (fun _ _ _ h => h) (hS54.sublist (.cons_cons _ (.cons_cons _ (.cons _ (List.Sublist.refl _))))) (fun _ _ _ hK => o_iaddr_slice (k := j2_) (a' := ⟨g3, j2_ * 1, none⟩) hv4 rfl hj2 (lt_of_getq hx5) Tryz.underlying30 Tryz.sizeOf9 (by simp [addr_lit]) ⟨rfl, hK⟩) (dt 4 31 (v := (.string x5_)) (by kernel_rfl) rfl rfl (fun _ _ _ h => h) (hS54.sublist (.cons_cons _ (.cons_cons _ (.cons _ (List.Sublist.refl _))))) (fun _ hJ _ hK => o_load (v := (.string x5_)) rfl Tryz.isAgg9 (vec_cellv encTx_len (j := 0) hv4 (hJ.get (i := 0) rfl) hx5 rfl) ⟨rfl, hK⟩) (d1 5 63 (by kernel_rfl) rfl (o_eput (y0 := true) (i := 2) (ms' := [vec v13 9 1 left_3.length ((left_3).flatMap encTx), vec v16 9 1 ((out_3 ++ [x4_]).length) ((out_3 ++ [x4_]).flatMap encTx), emap b6 (fun y : Bool => (Value.bool (y))) (put F_4 x5_ true), blk b7 127 [(.map (some b6))], blk b3 126 [(.map (some b2))], vec v6 9 1 ((cpt r1_).length) ((cpt r1_).flatMap encTx)]) hS54 rfl rfl rfl rfl Tryz.underlying127 Tryz.underlying9 rfl ?_)))
      intro w27 hS55
      refine wpList_nil ?_
      refine ⟨rfl, (hS55.sublist (.cons_cons _ (.cons_cons _ (.cons _ (List.Sublist.refl _))))), wpJ_weak (J' := fun z => St ⟨w, σ, []⟩ z σ8 [vec v13 9 1 left_3.length ((left_3).flatMap encTx), vec v16 9 1 ((out_3 ++ [x4_]).length) ((out_3 ++ [x4_]).flatMap encTx), emap b6 (fun y : Bool => (Value.bool (y))) (put F_4 x5_ true), blk b7 127 [(.map (some b6))], blk b3 126 [(.map (some b2))], vec v6 9 1 ((cpt r1_).length) ((cpt r1_).flatMap encTx)]) (fun w h => h.sublist (.cons_cons _ (.cons_cons _ (.cons _ (List.Sublist.refl _))))) _ _ _ _ ?_⟩
      refine dz (by kernel_rfl) (then_n (one_reg (o_move (v := v13) rfl (o_move (v := (.int .i64 r_1)) rfl (o_move (v := (.int .i64 r_1)) rfl ?_)))))
      obtain ⟨hi1, hP⟩ := hP
      refine o_add (r := (r_1 + (1 : Int))) rfl rfl (nwi rfl hi1) ?_
      obtain ⟨j3_, hj3, hP⟩ := hP
      obtain ⟨hd1, hP⟩ := hP
      obtain ⟨hd2, hP⟩ := hP
      obtain ⟨hsm5, hP⟩ := hP
      have hd3 : r_1 = ((j3_ : Nat) : Int) ∧ (r_1 + (1 : Int)) = ((j3_ + 1 : Nat) : Int) := ⟨by omega, by omega⟩
      refine o_call (args := [v13, (.int .i64 ((j3_ : Nat) : Int)), (.int .i64 ((j3_ + 1 : Nat) : Int))]) (by rw [← hd3.1, ← hd3.2]; rfl) Tryz.call66 (Calls.mono (delete_vec (i := j3_) (j := (j3_ + 1)) Tryz.slices_Delete_string hS55.view (hS55.get (i := 0) rfl) (fun b hb => hS55.off _ (List.mem_of_getElem? (i := 0) rfl) b hb) (by omega) hd2 hd1) ?_)
      rintro _ w28 ⟨v17, rfl, hf2, hg7, ho13⟩
      refine ⟨_, rfl, ?_⟩
      have ho14 := vec_one ho13
      have hS56 := hS55.growV (i := 0) (o' := vec v17 9 1 ((left_3.take j3_ ++ left_3.drop (j3_ + 1)).length) ((left_3.take j3_ ++ left_3.drop (j3_ + 1)).flatMap encTx)) rfl hg7 hf2 ho13 (ms' := [vec v17 9 1 ((left_3.take j3_ ++ left_3.drop (j3_ + 1)).length) ((left_3.take j3_ ++ left_3.drop (j3_ + 1)).flatMap encTx), vec v16 9 1 ((out_3 ++ [x4_]).length) ((out_3 ++ [x4_]).flatMap encTx), emap b6 (fun y : Bool => (Value.bool (y))) (put F_4 x5_ true), blk b7 127 [(.map (some b6))], blk b3 126 [(.map (some b2))], vec v6 9 1 ((cpt r1_).length) ((cpt r1_).flatMap encTx)]) rfl
      refine o_assign (v := v17) rfl (wpList_nil (blk_n (then_n ?_)))
      exact ⟨left_3.take j3_ ++ left_3.drop (j3_ + 1), out_3 ++ [x4_], put F_4 x5_ true, _, rfl, hP, v17, v16, σ8, _, (upd_in rfl (upd_in rfl (upd_in rfl (upd_in rfl rfl)))), hS56, (Sub.trans hsub7 hsub8), ho14, hsm5, ho12, hsm4⟩
   ·
    replace hP := hP.2 ht4
    refine wp_exit (then_e (then_e (blk_hit (then_n (seq_reg (o_move (v := v14) rfl (o_assign (v := v14) rfl (o_assign (v := (.int .i64 (0 : Int))) rfl (wpList_nil (then_n (wp_ret (ret2 rfl (show ev _ _ _ = v14 from rfl) (show ev _ _ _ = (.int .i64 (0 : Int)) from rfl) ?_))))))))))))
    have hS57 := hS45.front 1 rfl (ms' := [vec v14 9 1 out_3.length ((out_3).flatMap encTx), vec v13 9 1 left_3.length ((left_3).flatMap encTx), emap b6 (fun y : Bool => (Value.bool (y))) F_4, blk b7 127 [(.map (some b6))], blk b3 126 [(.map (some b2))], vec v6 9 1 ((cpt r1_).length) ((cpt r1_).flatMap encTx)]) rfl
    exact ⟨out_3, (0 : Int), v14, rfl, (St.back (hS57.keep 1 (ms' := [vec v14 9 1 out_3.length ((out_3).flatMap encTx)]) rfl) (Sub.refl _)), hl9, hP⟩
end Go.Proofs.YthpeboomdlgfaaaGreatDoor
end
section
open Go Go.RowKit Go.Fl Go.Fl.Lk Go.Fx
namespace Go.En
/-- The cells of a table among the package's variables. -/
theorem tab_cell {σ : Hv} {w : World} {g : Nat} {T : C} {n : Nat} {l : List (car T)} (hV : View σ w) (hs : SRep D (fun _ => none) σ (.pointer (some ⟨g, 0, none⟩)) (.fap T n l)) {i j : Nat} {x : car T} {s : FV Sg} (hx : l[i]? = some x) (hj : (D.shape T x)[j]? = some s) (hz : j < D.size T) :
    ∃ v, w.cell? ⟨g, i * D.size T + j, none⟩ = some v ∧ RepF D σ v s := by
  generalize hq : Value.pointer (some (⟨g, 0, none⟩ : Addr)) = q at hs
  cases hs with
  | fap ad cs T' N l' hN h hl hr =>
    cases hq
    have hrow := hr i x hx
    have hlen := okP.ok.len T x
    have hjl : j < ((cs.drop (i * D.size T)).take (D.size T)).length := by rw [hrow.1, hlen]; exact hz
    obtain ⟨v, hv⟩ : ∃ v, ((cs.drop (i * D.size T)).take (D.size T))[j]? = some v := ⟨_, List.getElem?_eq_getElem hjl⟩
    refine ⟨v, ?_, hrow.2 j v s hv hj⟩
    rw [List.getElem?_take, if_pos hz, List.getElem?_drop] at hv
    have := hV.cell (h _ v hv)
    rw [addr_lit, Nat.zero_add] at this
    exact this
set_option maxRecDepth 100000 in
theorem first_at : ∀ c, c < 256 → tFirst[c]? = some ((Go.Lib.firstT c : Nat) : Int) := by decide
set_option maxRecDepth 100000 in
theorem acc_at : ∀ i, i < 16 → (tAccept[i]?).map (fun a => (a.lo, a.hi)) = some (((Go.Lib.accLo i : Nat) : Int), ((Go.Lib.accHi i : Nat) : Int)) := by decide
theorem tabs {σ : Hv} {w : World} (hV : View σ w) (hG : Glb D σ) : Go.Lib.Utf8Tabs (Go.Proofs.Tryz.lays196_ren.g 3) (Go.Proofs.Tryz.lays196_ren.g 4) w := by
  refine ⟨fun c hc => ?_, fun i hi => ?_⟩
  · have h := hG.known (Go.Proofs.Tryz.lays196_ren.g 3)
    obtain ⟨v, h1, h2⟩ := tab_cell (T := .u8) (n := 256) (l := tFirst) hV h (i := c) (j := 0) (first_at c hc) rfl (by decide)
    cases h2
    simpa [show D.size C.u8 = 1 from rfl] using h1
  · have h := hG.known (Go.Proofs.Tryz.lays196_ren.g 4)
    have ha := acc_at i hi
    obtain ⟨a, e1, e2⟩ := Option.map_eq_some_iff.1 ha
    obtain ⟨v, h1, h2⟩ := tab_cell (T := .acc) (n := 16) (l := tAccept) hV h (i := i) (j := 0) e1 rfl (by decide)
    obtain ⟨v', h1', h2'⟩ := tab_cell (T := .acc) (n := 16) (l := tAccept) hV h (i := i) (j := 1) e1 rfl (by decide)
    cases h2; cases h2'
    simp only [Prod.mk.injEq] at e2
    rw [e2.1] at h1; rw [e2.2] at h1'
    refine ⟨by rw [Nat.mul_comm]; simpa [show D.size C.acc = 2 from rfl] using h1, by rw [Nat.mul_comm]; simpa [show D.size C.acc = 2 from rfl] using h1'⟩
theorem keeps_below {w w' : World} (h : Below w.heap.size w w') : Keeps [] w w' := ⟨h.os, h.tape, h.output, h.size, fun k hk _ => h.block k hk⟩
/-- A call that leaves what was there, and gives plain results. -/
theorem back_plain {σ : Hv} {w w1 : World} {args : List (Tr Sg)} {vals : List Value} {K : List (Tr Sg) → List (Tr Sg) → Prop} {rets outs : List (Tr Sg)} {rv : List Value} (hS : St ⟨w, σ, feet []⟩ w σ []) (hK : K rets outs) (hb : Below w.heap.size w w1) (hL : LayL D σ rets rv []) (hT : LayT D σ args outs vals [] []) :
    Back D σ w args vals [] K (.returned (retV rv)) w1 := by
  have hk := keeps_below hb
  refine ⟨rets, outs, rv, σ, [], [], rfl, hK, hL, hT, ?_⟩
  refine ⟨hk, fun b o hbo => ?_, Sub.refl _, fun _ _ _ => rfl, by simp, by simp, by simp, by simp⟩
  have h1 := hS.view b o hbo
  have hlt : b < w.heap.size := by
    rcases Nat.lt_or_ge b w.heap.size with h | h
    · exact h
    · rw [Array.getElem?_eq_none h] at h1; cases h1
  rw [hk.block b hlt (by simp)]; exact h1
theorem h_utf8_ValidString : Meets Go.Proofs.Tryz.prog D 200 (conV ([.v] : List (PK Sg)) ([.str] : List (VT Sg)) ([.bool] : List (VT Sg)) ([.same] : List (VT Sg)) (fun a K => P_utf8_ValidString a.1 (fun q0 => K (q0, ()) ((), ())))) := by
  intro args K hm w σ vals ins hG hL hS
  obtain ⟨a, ha, hm⟩ := optK_some hm
  have hargs := getL_putL ha
  subst hargs
  obtain ⟨s, _⟩ := a
  cases hL with
  | cons hp hr =>
  cases hr
  cases hp with
  | f hf =>
  cases hf
  have hm : s.size ≤ 9223372036854775807 ∧ K [.f (.bool (Go.Lib.validD s.data.toList))] [.same] := hm
  refine Calls.mono (Go.Proofs.Any.utf8_ValidString Go.Proofs.Tryz.lays196 s w hm.1 (tabs hS.view hG)) ?_
  rintro e w' ⟨rfl, hb⟩
  exact back_plain (rv := [.bool (Go.Lib.validD s.data.toList)]) hS hm.2 hb (.cons (ms := []) (.f (.bool _)) .nil) (.skip (a0 := []) .nil)
theorem h_strings_Contains : Meets Go.Proofs.Tryz.prog D 172 (conV ([.v, .v] : List (PK Sg)) ([.str, .str] : List (VT Sg)) ([.bool] : List (VT Sg)) ([.same, .same] : List (VT Sg)) (fun a K => P_strings_Contains a.1 a.2.1 (fun q0 => K (q0, ()) ((), (), ())))) := by
  intro args K hm w σ vals ins hG hL hS
  obtain ⟨a, ha, hm⟩ := optK_some hm
  have hargs := getL_putL ha
  subst hargs
  obtain ⟨s, t, _⟩ := a
  cases hL with
  | cons hp hr =>
  cases hr with
  | cons hq hr =>
  cases hr
  cases hp with
  | f hf =>
  cases hf
  cases hq with
  | f hf =>
  cases hf
  have hm : s.size < 4294967281 ∧ K [.f (.bool (Go.Lib.contains s.data.toList t.data.toList))] [.same, .same] := hm
  obtain ⟨n, hn⟩ := hG.free 5 .i64 rfl
  refine Calls.mono (Go.Proofs.Tryz.strings_Contains s t n w hm.1 (hS.view.cell hn)) ?_
  rintro e w' ⟨rfl, rfl⟩
  exact back_plain (rv := [.bool (Go.Lib.contains s.data.toList t.data.toList)]) hS hm.2 (Below.refl _ _) (.cons (ms := []) (.f (.bool _)) .nil) (.skip (a0 := []) (.skip (a0 := []) .nil))
theorem h_strconv_Atoi : Meets Go.Proofs.Tryz.prog D 231 (conV ([.v] : List (PK Sg)) ([.str] : List (VT Sg)) ([.int .i64, .ifc] : List (VT Sg)) ([.same] : List (VT Sg)) (fun a K => P_strconv_Atoi a.1 (fun q0 q1 => K (q0, q1, ()) ((), ())))) := by
  intro args K hm w σ vals ins hG hL hS
  obtain ⟨a, ha, hm⟩ := optK_some hm
  have hargs := getL_putL ha
  subst hargs
  obtain ⟨s, _⟩ := a
  cases hL with
  | cons hp hr =>
  cases hr
  cases hp with
  | f hf =>
  cases hf
  have hm : s.size ≤ 281474976710656 ∧ atoiK s (fun n b => K [.f (.int .i64 n), .f (.ifc b)] [.same]) := hm
  obtain ⟨hsz, hm⟩ := hm
  have err : ∀ g : Nat, D.glob g = .fptr [.ifc false] 0 → ∃ ev, w.cell? ⟨g, 0, none⟩ = some ev ∧ (ev = .nilIface ∨ ∃ te pe, ev = .iface te pe) := by
    intro g hg
    have h := hG.known g
    rw [hg] at h
    generalize hq : Value.pointer (some (⟨g, 0, none⟩ : Addr)) = q at h
    cases h with
    | fptr ad cs l off hv hr =>
    cases hq
    obtain ⟨v, hvl⟩ : ∃ v, cs = [v] := List.length_eq_one_iff.1 hr.1
    subst hvl
    have hc := hS.view.cell (hv 0 v rfl)
    have hR := hr.2 0 v _ rfl rfl
    refine ⟨v, ?_, ?_⟩
    · rw [addr_lit] at hc; exact hc
    · cases hR with
      | ifcS t p => exact .inr ⟨t, p, rfl⟩
  unfold atoiK at hm
  split at hm
  · rename_i v hv
    refine Calls.mono (Go.Proofs.Tryz.strconv_Atoi_ok s (by omega) v hv w) ?_
    rintro e w' ⟨rfl, hw⟩
    have hb : Below w.heap.size w w' := by
      rcases hw with rfl | ⟨t, rfl⟩
      · exact Below.refl _ _
      · exact Go.Lib.bytesWorld_below _ _ _
    exact back_plain (rv := [.int .i64 v, .nilIface]) hS hm hb (.cons (ms := []) (.f (.int _ _)) (.cons (ms := []) (.f .ifcN) .nil)) (.skip (a0 := []) .nil)
  · rename_i hv
    obtain ⟨ev, h1, h2⟩ := err 7 rfl
    refine Calls.mono (Go.Proofs.Tryz.strconv_Atoi_range s hsz hv ev w h1 h2) ?_
    rintro e w' ⟨N, rfl, _, _, hb⟩
    exact back_plain (rv := [.int .i64 _, .iface _ _]) hS hm hb (.cons (ms := []) (.f (.int _ _)) (.cons (ms := []) (.f (.ifcS _ _)) .nil)) (.skip (a0 := []) .nil)
  · rename_i hv
    obtain ⟨ev, h1, h2⟩ := err 6 rfl
    refine Calls.mono (Go.Proofs.Tryz.strconv_Atoi_syntax s hsz hv ev w h1 h2) ?_
    rintro e w' ⟨N, rfl, _, _, hb⟩
    exact back_plain (rv := [.int .i64 _, .iface _ _]) hS hm hb (.cons (ms := []) (.f (.int _ _)) (.cons (ms := []) (.f (.ifcS _ _)) .nil)) (.skip (a0 := []) .nil)
theorem flat_str (l : List ByteArray) : l.flatMap encTx = l.map Value.string := by
  induction l with
  | nil => rfl
  | cons a l ih => rw [List.flatMap_cons, List.map_cons, ih]; rfl
theorem cpt_le (l : List ByteArray) : (cpt l).length ≤ l.length := by
  unfold cpt Go.Lib.compact
  rw [List.length_map]
  have h : ∀ (d : Array (List UInt8)) (m : Nat), (Go.Lib.compactUpTo d m).length ≤ m := by
    intro d m
    unfold Go.Lib.compactUpTo
    rw [List.length_map]
    exact Nat.le_trans (List.length_filter_le _ _) (by simp)
  simpa using h _ _
theorem els_str {σ : Hv} {xs : List Value} {l : List ByteArray} (h : Els D σ C.str xs l) : xs = l.flatMap encTx := by
  have h1 : xs.length = l.length := by rw [h.1]; exact Nat.mul_one _
  rw [flat_str]
  refine List.ext_getElem? fun i => ?_
  rw [List.getElem?_map]
  rcases Nat.lt_or_ge i l.length with hi | hi
  · obtain ⟨v, hv⟩ : ∃ v, xs[i]? = some v := ⟨_, List.getElem?_eq_getElem (by omega)⟩
    obtain ⟨x, hx⟩ : ∃ x, l[i]? = some x := ⟨_, List.getElem?_eq_getElem hi⟩
    have hR := (h.2 i x hx).2 0 v (.str x) (by rw [show D.size C.str = 1 from rfl, Nat.mul_one, List.getElem?_take, if_pos (by decide), List.getElem?_drop]; exact hv) rfl
    rw [hv, hx]
    cases hR
    rfl
  · rw [List.getElem?_eq_none (by omega), List.getElem?_eq_none hi]; rfl
theorem str_els (σ : Hv) (l : List ByteArray) : Els D σ C.str (l.flatMap encTx) l := by
  rw [flat_str]
  refine ⟨by rw [List.length_map]; exact (Nat.mul_one _).symm, fun i x hx => ?_⟩
  rw [show D.size C.str = 1 from rfl, Nat.mul_one]
  have hx : l[i]? = some x := hx
  have e : ((l.map Value.string).drop i).take 1 = [.string x] := by
    rw [← List.map_drop, List.drop_eq_getElem_cons (List.getElem?_eq_some_iff.1 hx).1, (List.getElem?_eq_some_iff.1 hx).2]; rfl
  rw [e]
  refine ⟨rfl, fun j v s hj hs => ?_⟩
  cases j with
  | zero => cases hj; cases hs; exact .str x
  | succ j => cases hj
theorem h_slices_Sort_string_string_ : Meets Go.Proofs.Tryz.prog D 30 (conV ([.own 9 C.str] : List (PK Sg)) ([.vec 9 C.str] : List (VT Sg)) ([] : List (VT Sg)) ([.vec 9 C.str] : List (VT Sg)) (fun a K => P_slices_Sort_string_string_ a.1 (fun q0 => K () (q0, ())))) := by
  intro args K hm w σ vals ins hG hL hS
  obtain ⟨a, ha, hm⟩ := optK_some hm
  have hargs := getL_putL ha
  subst hargs
  obtain ⟨s, _⟩ := a
  cases hL with
  | cons hp hr =>
  cases hr
  cases hp with
  | vec hE hl h1 =>
  have hx := els_str hE
  subst hx
  have hm : K [] [.vec 9 C.str (srt s)] := hm
  refine Calls.mono (sort_vec Go.Proofs.Tryz.slices_Sort_string Go.Proofs.Tryz.slices_Sort_string_none hS.view (hS.get (i := 0) rfl) rfl (fun b hb => hS.off _ (List.mem_of_getElem? (i := 0) rfl) b hb) (by omega)) ?_
  rintro _ w1 ⟨rfl, hg, ho⟩
  have hS1 := hS.growV (i := 0) (o' := vec _ 9 1 s.length ((srt s).flatMap encTx)) rfl hg rfl ho (ms' := [vec _ 9 1 s.length ((srt s).flatMap encTx)]) rfl
  refine ⟨[], _, [], σ, [], [vec _ 9 1 (srt s).length ((srt s).flatMap encTx)], rfl, hm, .nil, .keep (.vec (str_els σ _) (Nat.le_trans (Nat.le_of_eq (srt_length _)) hl) h1) .nil, ?_⟩
  have e : (srt s).length = s.length := srt_length _
  rw [e]; exact hS1
theorem h_slices_Compact_string_string_ : Meets Go.Proofs.Tryz.prog D 31 (conV ([.own 9 C.str] : List (PK Sg)) ([.vec 9 C.str] : List (VT Sg)) ([.vec 9 C.str] : List (VT Sg)) ([.same] : List (VT Sg)) (fun a K => P_slices_Compact_string_string_ a.1 (fun q0 => K (q0, ()) ((), ())))) := by
  intro args K hm w σ vals ins hG hL hS
  obtain ⟨a, ha, hm⟩ := optK_some hm
  have hargs := getL_putL ha
  subst hargs
  obtain ⟨s, _⟩ := a
  cases hL with
  | cons hp hr =>
  cases hr
  cases hp with
  | vec hE hl h1 =>
  have hx := els_str hE
  subst hx
  have hm : K [.vec 9 C.str (cpt s)] [.same] := hm
  refine Calls.mono (compact_vec Go.Proofs.Tryz.slices_Compact_string Go.Proofs.Tryz.slices_Compact_string_empty hS.view (hS.get (i := 0) rfl) rfl (fun b hb => hS.off _ (List.mem_of_getElem? (i := 0) rfl) b hb) (by omega)) ?_
  rintro _ w1 ⟨v1, rfl, hf, hg, ho⟩
  have hlc : (cpt s).length ≤ 140737488355328 := Nat.le_trans (cpt_le _) hl
  have hS1 := hS.growV (i := 0) (o' := vec v1 9 1 (cpt s).length ((cpt s).flatMap encTx)) rfl hg hf ho (ms' := [vec v1 9 1 (cpt s).length ((cpt s).flatMap encTx)]) rfl
  exact ⟨[.vec 9 C.str (cpt s)], [.same], [v1], σ, [vec v1 9 1 (cpt s).length ((cpt s).flatMap encTx)], [], rfl, hm, .cons (.vec (str_els σ _) hlc (vec_one ho)) .nil, .skip .nil, hS1⟩
theorem rsl_str {σ : Hv} {v : Value} {l : List ByteArray} (h : RepF D σ v (.sl C.str l)) : RSl 1 (REnc encTx) σ v l := by
  obtain ⟨a, cap, e1, e2, e3, e4⟩ := h.toRSl okP.ok
  refine ⟨a, cap, e1, e2, e3, fun i x hx => ?_⟩
  obtain ⟨ad, cs, f1, f2, f3, f4⟩ := e4 i x hx
  refine ⟨ad, cs, f1, f2, f3, ?_⟩
  obtain ⟨u, rfl⟩ : ∃ u, cs = [u] := List.length_eq_one_iff.1 f2
  have g1 := f4.2 0 u (.str x) rfl rfl
  cases g1
  rfl
theorem rsl_edge {σ : Hv} {v : Value} {l : List Edg} (h : RepF D σ v (.sl C.edge l)) : RSl 2 (REnc encEd) σ v (l.map fun e => (e.1, e.2)) := by
  obtain ⟨a, cap, e1, e2, e3, e4⟩ := h.toRSl okP.ok
  have hl : (l.map fun e => (e.1, e.2)).length = l.length := List.length_map ..
  refine ⟨a, cap, by rw [hl]; exact e1, by rw [hl]; exact e2, by rw [hl]; exact e3, fun i x hx => ?_⟩
  rw [List.getElem?_map] at hx
  obtain ⟨y, hy, rfl⟩ := Option.map_eq_some_iff.1 hx
  obtain ⟨ad, cs, f1, f2, f3, f4⟩ := e4 i y hy
  refine ⟨ad, cs, f1, f2, f3, ?_⟩
  obtain ⟨u, v, rfl⟩ : ∃ u v, cs = [u, v] := by
    match cs, f2 with
    | [u, v], _ => exact ⟨u, v, rfl⟩
  have g1 := f4.2 0 u (.str y.src) rfl rfl
  have g2 := f4.2 1 v (.str y.dst) rfl rfl
  cases g1; cases g2
  rfl
theorem h_graph_Order : Meets Go.Proofs.Tryz.prog D 33 (conV ([.sl C.str, .sl C.edge] : List (PK Sg)) ([.sl C.str, .sl C.edge] : List (VT Sg)) ([.vec 9 C.str, .int .i64] : List (VT Sg)) ([.same, .same] : List (VT Sg)) (fun a K => P_graph_Order a.1 a.2.1 (fun q0 q1 => K (q0, q1, ()) ((), (), ())))) := by
  intro args K hm w σ vals ins hG hL hS
  obtain ⟨a, ha, hm⟩ := optK_some hm
  have hargs := getL_putL ha
  subst hargs
  obtain ⟨s, t, _⟩ := a
  cases hL with
  | @cons _ _ v1 _ _ _ hp hr =>
  cases hr with
  | @cons _ _ v2 _ _ _ hq hr =>
  cases hr
  cases hp with
  | f hf1 =>
  cases hq with
  | f hf2 =>
  have hm : Go.Fl.P_graph_Order s (t.map fun e => (e.1, e.2)) (fun l n => K [.vec 9 C.str l, .f (.int .i64 n)] [.same, .same]) := hm
  refine Calls.mono (Go.Proofs.YthpeboomdlgfaaaGreatDoor.w_graph_Order s (t.map fun e => (e.1, e.2)) v1 v2 hS.view (rsl_str hf1) (rsl_edge hf2) hm) ?_
  rintro e w1 ⟨l, n, v, rfl, hS1, hsm, hK⟩
  have hl : l.length ≤ 140737488355328 := by unfold Sml at hsm; omega
  exact ⟨[.vec 9 C.str l, .f (.int .i64 n)], [.same, .same], [v, .int .i64 n], σ, [vec v 9 1 l.length (l.flatMap encTx)], [], rfl, hK, .cons (.vec (str_els σ _) hl (vec_one (hS1.get (i := 0) rfl))) (.cons (ms := []) (.f (.int _ _)) .nil), .skip (a0 := []) (.skip (a0 := []) .nil), hS1⟩
theorem h_strings_Split : Meets Go.Proofs.Tryz.prog D 221 (conV ([.v, .v] : List (PK Sg)) ([.str, .str] : List (VT Sg)) ([.vec 9 C.str] : List (VT Sg)) ([.same, .same] : List (VT Sg)) (fun a K => P_strings_Split a.1 a.2.1 (fun q0 => K (q0, ()) ((), (), ())))) := by
  intro args K hm w σ vals ins hG hL hS
  obtain ⟨a, ha, hm⟩ := optK_some hm
  have hargs := getL_putL ha
  subst hargs
  obtain ⟨s, t, _⟩ := a
  cases hL with
  | cons hp hr =>
  cases hr with
  | cons hq hr =>
  cases hr
  cases hp with
  | f hf =>
  cases hf
  cases hq with
  | f hf =>
  cases hf
  have hm : t.size = 1 ∧ s.size < 4294967281 ∧ K [.vec 9 C.str (splitL s t)] [.same, .same] := hm
  obtain ⟨h1, hsz, hm⟩ := hm
  obtain ⟨n, hn⟩ := hG.free 5 .i64 rfl
  have hlen : (splitL s t).length = Go.Lib.countB s t + 1 := Go.Lib.splitB_all t (by omega) 0 _ s rfl
  have hcnt := Go.Lib.countB_le t (by omega) s.size s (Nat.le_refl _)
  refine Calls.mono (Go.Proofs.Tryz.strings_Split s t n w hsz (hS.view.cell hn) (by omega)) ?_
  rintro e w' ⟨rfl, rfl⟩
  have ho : (vec (.slice (some ⟨w.heap.size, 0, none⟩) (splitL s t).length (splitL s t).length) 9 1 (splitL s t).length ((splitL s t).flatMap encTx)).ok (w.alloc (.cells ((splitL s t).map Value.string).toArray 9)) := by
    refine ⟨by rw [flat_str]; simp, .inr ⟨w.heap.size, _, _, rfl, Nat.zero_le _, heap_alloc_new _ _, Nat.le_refl _, by unfold maxLen; omega, by simp, ?_⟩⟩
    rw [flat_str, Nat.mul_one]
    exact List.take_of_length_le (by rw [List.length_map]; exact Nat.le_refl _)
  have hS1 := hS.add (alloc_keeps w _) ho (by rintro k ⟨⟩; exact Nat.le_refl _)
  have hl : (splitL s t).length ≤ 140737488355328 := by omega
  have hr := (⟨[.vec 9 C.str (splitL s t)], [.same, .same], [_], σ, [_], [], rfl, hm, .cons (.vec (str_els σ _) hl (vec_one ho)) .nil, .skip (a0 := []) (.skip (a0 := []) .nil), hS1⟩ : Back D σ w [.f (.str s), .f (.str t)] [.string s, .string t] [] K (.returned (retV [.slice (some ⟨w.heap.size, 0, none⟩) (splitL s t).length (splitL s t).length])) (w.alloc (.cells ((splitL s t).map Value.string).toArray 9)))
  rw [hlen] at hr
  exact hr
end Go.En
end
section
open Go Go.RowKit Go.Fl Go.Fl.Lk Go.Fx
namespace Go.En
theorem ent_d_Declared : Ent Go.Proofs.Tryz.prog 37 := ent_at (by kernel_rfl) (by kernel_rfl) (by kernel_rfl)
noncomputable def k_d_Declared (X : T_d_Declared) : Con Sg := conV ([] : List (PK Sg)) ([] : List (VT Sg)) ([.vec 114 C.decl] : List (VT Sg)) ([] : List (VT Sg)) (fun _ K => X (fun q0 => K (q0, ()) ()))
noncomputable def pl_d_Declared : Nat → Option (Fx.Spec Sg) := findN ([] : List (Nat × Fx.Spec Sg))
noncomputable def EX_d_Declared : Ev Sg := E0
theorem eqS_d_Declared  (K : List (Decl) → Prop) : P_d_Declared  K = fnV ((EX_d_Declared).pl pl_d_Declared) 4 37 ([] : List (PK Sg)) ([.own 114 C.decl] : List (PK Sg)) ([] : List (VT Sg)) ([.vec 114 C.decl] : List (VT Sg)) ([] : List (VT Sg)) () (fun r _ => K r.1) := by kernel_rfl
set_option maxRecDepth 100000 in
theorem n_d_Declared : Meets Go.Proofs.Tryz.prog D 37 (k_d_Declared P_d_Declared) := meets3 (E := EX_d_Declared) h_E0 fun _ K => eqS_d_Declared (fun q0 => K (q0, ()) ())
theorem ent_d_Left : Ent Go.Proofs.Tryz.prog 27 := ent_at (by kernel_rfl) (by kernel_rfl) (by kernel_rfl)
noncomputable def k_d_Left (X : T_d_Left) : Con Sg := conV ([.ptr 71 [.c, .v]] : List (PK Sg)) ([.ptr 71 [.sl C.u8, .int .i64]] : List (VT Sg)) ([.bool] : List (VT Sg)) ([.ptr 71 [.same, .int .i64]] : List (VT Sg)) (fun a K => X a.1.1 a.1.2.1 (fun q0 q1 => K (q0, ()) (((), q1, ()), ())))
noncomputable def pl_d_Left : Nat → Option (Fx.Spec Sg) := findN ([] : List (Nat × Fx.Spec Sg))
noncomputable def EX_d_Left : Ev Sg := E0
theorem eqS_d_Left (list : List (Int)) (at_ : Int) (K : Bool → Int → Prop) : P_d_Left list at_ K = fnV ((EX_d_Left).pl pl_d_Left) 4 27 ([.ptr 71 [.c, .v]] : List (PK Sg)) ([.v] : List (PK Sg)) ([.ptr 71 [.sl C.u8, .int .i64]] : List (VT Sg)) ([.bool] : List (VT Sg)) ([.ptr 71 [.same, .int .i64]] : List (VT Sg)) ((list, at_, ()), ()) (fun r o => K r.1 o.1.2.1) := by kernel_rfl
set_option maxRecDepth 100000 in
theorem n_d_Left : Meets Go.Proofs.Tryz.prog D 27 (k_d_Left P_d_Left) := meets3 (E := EX_d_Left) h_E0 fun a K => eqS_d_Left a.1.1 a.1.2.1 (fun q0 q1 => K (q0, ()) (((), q1, ()), ()))
theorem ent_d_Next : Ent Go.Proofs.Tryz.prog 10 := ent_at (by kernel_rfl) (by kernel_rfl) (by kernel_rfl)
noncomputable def k_d_Next (X : T_d_Next) : Con Sg := conV ([.ptr 71 [.c, .v], .v] : List (PK Sg)) ([.ptr 71 [.sl C.u8, .int .i64], .int .i64] : List (VT Sg)) ([.int .i64] : List (VT Sg)) ([.ptr 71 [.same, .int .i64], .same] : List (VT Sg)) (fun a K => X a.1.1 a.1.2.1 a.2.1 (fun q0 q1 => K (q0, ()) (((), q1, ()), (), ())))
noncomputable def pl_d_Next : Nat → Option (Fx.Spec Sg) := findN ([] : List (Nat × Fx.Spec Sg))
noncomputable def EX_d_Next (X_d_Left : T_d_Left) : Ev Sg := (E0.with 27 (k_d_Left X_d_Left))
theorem eqS_d_Next (X_d_Left : T_d_Left) (list : List (Int)) (at_ : Int) (n : Int) (K : Int → Int → Prop) : S_d_Next X_d_Left list at_ n K = fnV ((EX_d_Next X_d_Left).pl pl_d_Next) 4 10 ([.ptr 71 [.c, .v], .v] : List (PK Sg)) ([.v] : List (PK Sg)) ([.ptr 71 [.sl C.u8, .int .i64], .int .i64] : List (VT Sg)) ([.int .i64] : List (VT Sg)) ([.ptr 71 [.same, .int .i64], .same] : List (VT Sg)) ((list, at_, ()), n, ()) (fun r o => K r.1 o.1.2.1) := by kernel_rfl
set_option maxRecDepth 100000 in
theorem n_d_Next : Meets Go.Proofs.Tryz.prog D 10 (k_d_Next P_d_Next) := meets3 (E := EX_d_Next P_d_Left) (with3 h_E0 ent_d_Left n_d_Left) fun a K => eqS_d_Next P_d_Left a.1.1 a.1.2.1 a.2.1 (fun q0 q1 => K (q0, ()) (((), q1, ()), (), ()))
theorem ent_d_Text : Ent Go.Proofs.Tryz.prog 38 := ent_at (by kernel_rfl) (by kernel_rfl) (by kernel_rfl)
noncomputable def k_d_Text (X : T_d_Text) : Con Sg := conV ([.ptr 71 [.c, .v]] : List (PK Sg)) ([.ptr 71 [.sl C.u8, .int .i64]] : List (VT Sg)) ([.str] : List (VT Sg)) ([.ptr 71 [.same, .int .i64]] : List (VT Sg)) (fun a K => X a.1.1 a.1.2.1 (fun q0 q1 => K (q0, ()) (((), q1, ()), ())))
noncomputable def pl_d_Text : Nat → Option (Fx.Spec Sg) := findN ([] : List (Nat × Fx.Spec Sg))
noncomputable def EX_d_Text (X_d_Next : T_d_Next) : Ev Sg := (E0.with 10 (k_d_Next X_d_Next))
theorem eqS_d_Text (X_d_Next : T_d_Next) (list : List (Int)) (at_ : Int) (K : ByteArray → Int → Prop) : S_d_Text X_d_Next list at_ K = fnV ((EX_d_Text X_d_Next).pl pl_d_Text) 4 38 ([.ptr 71 [.c, .v]] : List (PK Sg)) ([.v] : List (PK Sg)) ([.ptr 71 [.sl C.u8, .int .i64]] : List (VT Sg)) ([.str] : List (VT Sg)) ([.ptr 71 [.same, .int .i64]] : List (VT Sg)) ((list, at_, ()), ()) (fun r o => K r.1 o.1.2.1) := by kernel_rfl
set_option maxRecDepth 100000 in
theorem n_d_Text : Meets Go.Proofs.Tryz.prog D 38 (k_d_Text P_d_Text) := meets3 (E := EX_d_Text P_d_Next) (with3 h_E0 ent_d_Next n_d_Next) fun a K => eqS_d_Text P_d_Next a.1.1 a.1.2.1 (fun q0 q1 => K (q0, ()) (((), q1, ()), ()))
theorem ent_d_Key : Ent Go.Proofs.Tryz.prog 52 := ent_at (by kernel_rfl) (by kernel_rfl) (by kernel_rfl)
noncomputable def k_d_Key (X : T_d_Key) : Con Sg := conV ([.ptr 71 [.c, .v]] : List (PK Sg)) ([.ptr 71 [.sl C.u8, .int .i64]] : List (VT Sg)) ([.str] : List (VT Sg)) ([.ptr 71 [.same, .int .i64]] : List (VT Sg)) (fun a K => X a.1.1 a.1.2.1 (fun q0 q1 => K (q0, ()) (((), q1, ()), ())))
noncomputable def pl_d_Key : Nat → Option (Fx.Spec Sg) := findN ([] : List (Nat × Fx.Spec Sg))
noncomputable def EX_d_Key (X_d_Next : T_d_Next) : Ev Sg := (E0.with 10 (k_d_Next X_d_Next))
theorem eqS_d_Key (X_d_Next : T_d_Next) (list : List (Int)) (at_ : Int) (K : ByteArray → Int → Prop) : S_d_Key X_d_Next list at_ K = fnV ((EX_d_Key X_d_Next).pl pl_d_Key) 4 52 ([.ptr 71 [.c, .v]] : List (PK Sg)) ([.v] : List (PK Sg)) ([.ptr 71 [.sl C.u8, .int .i64]] : List (VT Sg)) ([.str] : List (VT Sg)) ([.ptr 71 [.same, .int .i64]] : List (VT Sg)) ((list, at_, ()), ()) (fun r o => K r.1 o.1.2.1) := by kernel_rfl
set_option maxRecDepth 100000 in
theorem n_d_Key : Meets Go.Proofs.Tryz.prog D 52 (k_d_Key P_d_Key) := meets3 (E := EX_d_Key P_d_Next) (with3 h_E0 ent_d_Next n_d_Next) fun a K => eqS_d_Key P_d_Next a.1.1 a.1.2.1 (fun q0 q1 => K (q0, ()) (((), q1, ()), ()))
theorem ent_d_Value : Ent Go.Proofs.Tryz.prog 53 := ent_at (by kernel_rfl) (by kernel_rfl) (by kernel_rfl)
noncomputable def k_d_Value (X : T_d_Value) : Con Sg := conV ([.ptr 71 [.c, .v], .v] : List (PK Sg)) ([.ptr 71 [.sl C.u8, .int .i64], .int .i64] : List (VT Sg)) ([.el C.val] : List (VT Sg)) ([.ptr 71 [.same, .int .i64], .same] : List (VT Sg)) (fun a K => X a.1.1 a.1.2.1 a.2.1 (fun q0 q1 => K (q0, ()) (((), q1, ()), (), ())))
noncomputable def pl_d_Value : Nat → Option (Fx.Spec Sg) := findN ([] : List (Nat × Fx.Spec Sg))
noncomputable def EX_d_Value (X_d_Next : T_d_Next) (X_d_Text : T_d_Text) : Ev Sg := ((E0.with 10 (k_d_Next X_d_Next)).with 38 (k_d_Text X_d_Text))
theorem eqS_d_Value (X_d_Next : T_d_Next) (X_d_Text : T_d_Text) (list : List (Int)) (at_ : Int) (kind : Int) (K : Val → Int → Prop) : S_d_Value X_d_Next X_d_Text list at_ kind K = fnV ((EX_d_Value X_d_Next X_d_Text).pl pl_d_Value) 4 53 ([.ptr 71 [.c, .v], .v] : List (PK Sg)) ([.el C.val] : List (PK Sg)) ([.ptr 71 [.sl C.u8, .int .i64], .int .i64] : List (VT Sg)) ([.el C.val] : List (VT Sg)) ([.ptr 71 [.same, .int .i64], .same] : List (VT Sg)) ((list, at_, ()), kind, ()) (fun r o => K r.1 o.1.2.1) := by kernel_rfl
set_option maxRecDepth 100000 in
theorem n_d_Value : Meets Go.Proofs.Tryz.prog D 53 (k_d_Value P_d_Value) := meets3 (E := EX_d_Value P_d_Next P_d_Text) (with3 (with3 h_E0 ent_d_Next n_d_Next) ent_d_Text n_d_Text) fun a K => eqS_d_Value P_d_Next P_d_Text a.1.1 a.1.2.1 a.2.1 (fun q0 q1 => K (q0, ()) (((), q1, ()), (), ()))
theorem ent_d_Test : Ent Go.Proofs.Tryz.prog 28 := ent_at (by kernel_rfl) (by kernel_rfl) (by kernel_rfl)
noncomputable def k_d_Test (X : T_d_Test) : Con Sg := conV ([.ptr 71 [.c, .v]] : List (PK Sg)) ([.ptr 71 [.sl C.u8, .int .i64]] : List (VT Sg)) ([.el C.ex] : List (VT Sg)) ([.ptr 71 [.same, .int .i64]] : List (VT Sg)) (fun a K => X a.1.1 a.1.2.1 (fun q0 q1 => K (q0, ()) (((), q1, ()), ())))
noncomputable def pl_d_Test : Nat → Option (Fx.Spec Sg) := findN ([(68, ⟨[0, 2, 3, 4, 5, 6, 8, 9, 10, 11, 12, 13, 14, 15, 16, 17, 23, 24, 25, 26, 27, 28, 29, 30, 31], [3, 2], [(5, (26, 5)), (0, (71, 2)), (1, (26, 5))], [(.cell 5 0, .int IntKind.i64), (.cell 5 1, .str), (.cell 5 2, .str), (.cell 5 3, .own 112 C.val), (.cell 5 4, .own 26 C.ex), (.cell 0 1, .int IntKind.i64), (.cell 1 0, .int IntKind.i64), (.cell 1 1, .str), (.cell 1 2, .str), (.cell 1 3, .own 112 C.val), (.cell 1 4, .own 26 C.ex)]⟩), (60, ⟨[0, 2, 4, 5, 6, 9, 11, 12, 13, 14, 16, 17, 24, 25, 26, 27, 28, 29, 30, 31, 32, 33], [], [(0, (71, 2)), (5, (26, 5)), (1, (26, 5))], [(.cell 0 1, .int IntKind.i64), (.cell 5 0, .int IntKind.i64), (.cell 5 1, .str), (.cell 5 2, .str), (.cell 5 3, .own 112 C.val), (.cell 5 4, .own 26 C.ex), (.cell 1 0, .int IntKind.i64), (.cell 1 1, .str), (.cell 1 2, .str), (.cell 1 3, .own 112 C.val), (.cell 1 4, .own 26 C.ex)]⟩), (37, ⟨[0, 2, 4, 5, 6, 9, 11, 12, 13, 14, 16, 17, 24, 25, 26, 27, 28, 29, 30, 31, 32, 33, 34, 35, 36, 37, 46, 47, 48, 49], [1], [(5, (26, 5)), (0, (71, 2))], [(.slot 7, .int IntKind.i64), (.cell 5 3, .own 112 C.val), (.cell 0 1, .int IntKind.i64)]⟩)] : List (Nat × Fx.Spec Sg))
noncomputable def EX_d_Test (X_d_Declared : T_d_Declared) (X_d_Next : T_d_Next) (X_d_Key : T_d_Key) (X_d_Value : T_d_Value) : Ev Sg := ((((E0.with 37 (k_d_Declared X_d_Declared)).with 10 (k_d_Next X_d_Next)).with 52 (k_d_Key X_d_Key)).with 53 (k_d_Value X_d_Value))
theorem eqS_d_Test (X_d_Declared : T_d_Declared) (X_d_Next : T_d_Next) (X_d_Key : T_d_Key) (X_d_Value : T_d_Value) (list : List (Int)) (at_ : Int) (K : Ex → Int → Prop) : S_d_Test X_d_Declared X_d_Next X_d_Key X_d_Value list at_ K = fnV ((EX_d_Test X_d_Declared X_d_Next X_d_Key X_d_Value).pl pl_d_Test) 4 28 ([.ptr 71 [.c, .v]] : List (PK Sg)) ([.el C.ex] : List (PK Sg)) ([.ptr 71 [.sl C.u8, .int .i64]] : List (VT Sg)) ([.el C.ex] : List (VT Sg)) ([.ptr 71 [.same, .int .i64]] : List (VT Sg)) ((list, at_, ()), ()) (fun r o => K r.1 o.1.2.1) := by kernel_rfl
set_option maxRecDepth 100000 in
theorem n_d_Test : Meets Go.Proofs.Tryz.prog D 28 (k_d_Test P_d_Test) := meets3 (E := EX_d_Test P_d_Declared P_d_Next P_d_Key P_d_Value) (with3 (with3 (with3 (with3 h_E0 ent_d_Declared n_d_Declared) ent_d_Next n_d_Next) ent_d_Key n_d_Key) ent_d_Value n_d_Value) fun a K => eqS_d_Test P_d_Declared P_d_Next P_d_Key P_d_Value a.1.1 a.1.2.1 (fun q0 q1 => K (q0, ()) (((), q1, ()), ()))
theorem ent_d_Expr : Ent Go.Proofs.Tryz.prog 11 := ent_at (by kernel_rfl) (by kernel_rfl) (by kernel_rfl)
noncomputable def k_d_Expr (X : T_d_Expr) : Con Sg := conV ([.ptr 71 [.c, .v], .sl C.str, .v] : List (PK Sg)) ([.ptr 71 [.sl C.u8, .int .i64], .sl C.str, .int .i64] : List (VT Sg)) ([.el C.ex] : List (VT Sg)) ([.ptr 71 [.same, .int .i64], .same, .same] : List (VT Sg)) (fun a K => X a.1.1 a.1.2.1 a.2.1 a.2.2.1 (fun q0 q1 => K (q0, ()) (((), q1, ()), (), (), ())))
noncomputable def pl_d_Expr : Nat → Option (Fx.Spec Sg) := findN ([(8, ⟨[0, 1, 2, 6, 13, 14], [0, 1], [], [(.slot 7, .int IntKind.i64)]⟩), (28, ⟨[0, 1, 2, 6, 7, 13, 14, 23, 24, 25, 27, 28, 40, 41], [0, 1], [], [(.slot 49, .bool)]⟩), (37, ⟨[0, 1, 2, 6, 7, 8, 9, 10, 13, 14, 23, 24, 25, 27, 28, 40, 41, 49, 52, 53, 54, 55, 56, 57, 58, 59], [1], [(0, (71, 2)), (4, (26, 5))], [(.slot 11, .int IntKind.i64), (.cell 0 1, .int IntKind.i64), (.cell 4 0, .int IntKind.i64), (.cell 4 1, .str), (.cell 4 2, .str), (.cell 4 3, .own 112 C.val), (.cell 4 4, .own 26 C.ex)]⟩), (46, ⟨[0, 1, 2, 6, 7, 8, 9, 10, 11, 12, 13, 14, 23, 24, 25, 27, 28, 40, 41, 49, 52, 53, 54, 55, 56, 57, 58, 59, 60, 61, 62, 65, 66, 67, 68, 69], [0, 12, 11, 4], [(13, (26, 5))], [(.cell 13 0, .int IntKind.i64), (.cell 13 1, .str), (.cell 13 2, .str), (.cell 13 3, .sl C.val), (.cell 13 4, .sl C.ex)]⟩)] : List (Nat × Fx.Spec Sg))
noncomputable def EX_d_Expr (X_d_Next : T_d_Next) (X_d_Test : T_d_Test) : Ev Sg := ((E0.with 10 (k_d_Next X_d_Next)).with 28 (k_d_Test X_d_Test))
theorem eqS_d_Expr (X_d_Next : T_d_Next) (X_d_Test : T_d_Test) (X : T_d_Expr) (list : List (Int)) (at_ : Int) (segments : List (ByteArray)) (levels : Int) (K : Ex → Int → Prop) : S_d_Expr X_d_Next X_d_Test X list at_ segments levels K = fnV (((EX_d_Expr X_d_Next X_d_Test).with 11 (k_d_Expr X)).pl pl_d_Expr) 4 11 ([.ptr 71 [.c, .v], .sl C.str, .v] : List (PK Sg)) ([.el C.ex] : List (PK Sg)) ([.ptr 71 [.sl C.u8, .int .i64], .sl C.str, .int .i64] : List (VT Sg)) ([.el C.ex] : List (VT Sg)) ([.ptr 71 [.same, .int .i64], .same, .same] : List (VT Sg)) ((list, at_, ()), segments, levels, ()) (fun r o => K r.1 o.1.2.1) := by kernel_rfl
set_option maxRecDepth 100000 in
theorem n_d_Expr : Meets Go.Proofs.Tryz.prog D 11 (k_d_Expr P_d_Expr) := by
  show Meets _ _ _ (conV ([.ptr 71 [.c, .v], .sl C.str, .v] : List (PK Sg)) ([.ptr 71 [.sl C.u8, .int .i64], .sl C.str, .int .i64] : List (VT Sg)) ([.el C.ex] : List (VT Sg)) ([.ptr 71 [.same, .int .i64], .same, .same] : List (VT Sg)) fun a K => P_d_Expr a.1.1 a.1.2.1 a.2.1 a.2.2.1 (fun q0 q1 => K (q0, ()) (((), q1, ()), (), (), ())))
  refine meetsR (E := EX_d_Expr P_d_Next P_d_Test) (fuel := 4) (rk := [.el C.ex]) (p := pl_d_Expr) (with3 (with3 h_E0 ent_d_Next n_d_Next) ent_d_Test n_d_Test) ent_d_Expr fun a K h X hX => ?_
  exact h (fun list at_ segments levels K => X ((list, at_, ()), segments, levels, ()) fun r o => K r.1 o.1.2.1) (fun list at_ segments levels K hs => hX ((list, at_, ()), segments, levels, ()) (fun r o => K r.1 o.1.2.1) (Eq.mp (eqS_d_Expr P_d_Next P_d_Test (fun list at_ segments levels K => X ((list, at_, ()), segments, levels, ()) fun r o => K r.1 o.1.2.1) list at_ segments levels K) hs))
end Go.En
end
section
open Go Go.RowKit Go.Fl Go.Fl.Lk Go.Fx
namespace Go.En
theorem ent_r1_Same : Ent Go.Proofs.Tryz.prog 12 := ent_at (by kernel_rfl) (by kernel_rfl) (by kernel_rfl)
noncomputable def k_r1_Same (X : T_r1_Same) : Con Sg := conV ([.sl C.str, .sl C.str] : List (PK Sg)) ([.sl C.str, .sl C.str] : List (VT Sg)) ([.bool] : List (VT Sg)) ([.same, .same] : List (VT Sg)) (fun a K => X a.1 a.2.1 (fun q0 => K (q0, ()) ((), (), ())))
noncomputable def pl_r1_Same : Nat → Option (Fx.Spec Sg) := findN ([(9, ⟨[0, 1, 6, 7, 8, 9, 10], [], [], [(.slot 5, .int IntKind.i64)]⟩)] : List (Nat × Fx.Spec Sg))
noncomputable def EX_r1_Same : Ev Sg := E0
theorem eqS_r1_Same (a : List (ByteArray)) (b : List (ByteArray)) (K : Bool → Prop) : P_r1_Same a b K = fnV ((EX_r1_Same).pl pl_r1_Same) 4 12 ([.sl C.str, .sl C.str] : List (PK Sg)) ([.v] : List (PK Sg)) ([.sl C.str, .sl C.str] : List (VT Sg)) ([.bool] : List (VT Sg)) ([.same, .same] : List (VT Sg)) (a, b, ()) (fun r _ => K r.1) := by kernel_rfl
set_option maxRecDepth 100000 in
theorem n_r1_Same : Meets Go.Proofs.Tryz.prog D 12 (k_r1_Same P_r1_Same) := meets3 (E := EX_r1_Same) h_E0 fun a K => eqS_r1_Same a.1 a.2.1 (fun q0 => K (q0, ()) ((), (), ()))
end Go.En
end
section
open Go Go.RowKit Go.Fl Go.Fl.Lk Go.Fx
namespace Go.En
theorem ent_utf8_ValidString : Ent Go.Proofs.Tryz.prog 200 := ent_at (by kernel_rfl) (by kernel_rfl) (by kernel_rfl)
noncomputable def k_utf8_ValidString (X : T_utf8_ValidString) : Con Sg := conV ([.v] : List (PK Sg)) ([.str] : List (VT Sg)) ([.bool] : List (VT Sg)) ([.same] : List (VT Sg)) (fun a K => X a.1 (fun q0 => K (q0, ()) ((), ())))
theorem n_utf8_ValidString : Meets Go.Proofs.Tryz.prog D 200 (k_utf8_ValidString P_utf8_ValidString) := h_utf8_ValidString
end Go.En
end
section
open Go Go.RowKit Go.Fl Go.Fl.Lk Go.Fx
namespace Go.En
theorem ent_r11_Keys : Ent Go.Proofs.Tryz.prog 35 := ent_at (by kernel_rfl) (by kernel_rfl) (by kernel_rfl)
noncomputable def k_r11_Keys (X : T_r11_Keys) : Con Sg := conV ([.sl C.seg] : List (PK Sg)) ([.sl C.seg] : List (VT Sg)) ([.vec 9 C.str] : List (VT Sg)) ([.same] : List (VT Sg)) (fun a K => X a.1 (fun q0 => K (q0, ()) ((), ())))
noncomputable def pl_r11_Keys : Nat → Option (Fx.Spec Sg) := findN ([(7, ⟨[0, 2], [], [], [(.slot 3, .own 9 C.str), (.slot 4, .int IntKind.i64)]⟩)] : List (Nat × Fx.Spec Sg))
noncomputable def EX_r11_Keys : Ev Sg := E0
theorem eqS_r11_Keys (l : List (Seg)) (K : List (ByteArray) → Prop) : P_r11_Keys l K = fnV ((EX_r11_Keys).pl pl_r11_Keys) 4 35 ([.sl C.seg] : List (PK Sg)) ([.own 9 C.str] : List (PK Sg)) ([.sl C.seg] : List (VT Sg)) ([.vec 9 C.str] : List (VT Sg)) ([.same] : List (VT Sg)) (l, ()) (fun r _ => K r.1) := by kernel_rfl
set_option maxRecDepth 100000 in
theorem n_r11_Keys : Meets Go.Proofs.Tryz.prog D 35 (k_r11_Keys P_r11_Keys) := meets3 (E := EX_r11_Keys) h_E0 fun a K => eqS_r11_Keys a.1 (fun q0 => K (q0, ()) ((), ()))
theorem ent_r1_Has : Ent Go.Proofs.Tryz.prog 22 := ent_at (by kernel_rfl) (by kernel_rfl) (by kernel_rfl)
noncomputable def k_r1_Has (X : T_r1_Has) : Con Sg := conV ([.sl C.str, .v] : List (PK Sg)) ([.sl C.str, .str] : List (VT Sg)) ([.bool] : List (VT Sg)) ([.same, .same] : List (VT Sg)) (fun a K => X a.1 a.2.1 (fun q0 => K (q0, ()) ((), (), ())))
noncomputable def pl_r1_Has : Nat → Option (Fx.Spec Sg) := findN ([(5, ⟨[0, 1], [], [], [(.slot 5, .int IntKind.i64)]⟩)] : List (Nat × Fx.Spec Sg))
noncomputable def EX_r1_Has : Ev Sg := E0
theorem eqS_r1_Has (l : List (ByteArray)) (s : ByteArray) (K : Bool → Prop) : P_r1_Has l s K = fnV ((EX_r1_Has).pl pl_r1_Has) 4 22 ([.sl C.str, .v] : List (PK Sg)) ([.v] : List (PK Sg)) ([.sl C.str, .str] : List (VT Sg)) ([.bool] : List (VT Sg)) ([.same, .same] : List (VT Sg)) (l, s, ()) (fun r _ => K r.1) := by kernel_rfl
set_option maxRecDepth 100000 in
theorem n_r1_Has : Meets Go.Proofs.Tryz.prog D 22 (k_r1_Has P_r1_Has) := meets3 (E := EX_r1_Has) h_E0 fun a K => eqS_r1_Has a.1 a.2.1 (fun q0 => K (q0, ()) ((), (), ()))
theorem ent_r1_Add : Ent Go.Proofs.Tryz.prog 49 := ent_at (by kernel_rfl) (by kernel_rfl) (by kernel_rfl)
noncomputable def k_r1_Add (X : T_r1_Add) : Con Sg := conV ([.sl C.str, .v] : List (PK Sg)) ([.sl C.str, .str] : List (VT Sg)) ([.sl C.str] : List (VT Sg)) ([.same, .same] : List (VT Sg)) (fun a K => X a.1 a.2.1 (fun q0 => K (q0, ()) ((), (), ())))
noncomputable def pl_r1_Add : Nat → Option (Fx.Spec Sg) := findN ([(5, ⟨[0, 1, 4], [], [], [(.slot 5, .int IntKind.i64)]⟩)] : List (Nat × Fx.Spec Sg))
noncomputable def EX_r1_Add : Ev Sg := E0
theorem eqS_r1_Add (l : List (ByteArray)) (s : ByteArray) (K : List (ByteArray) → Prop) : P_r1_Add l s K = fnV ((EX_r1_Add).pl pl_r1_Add) 4 49 ([.sl C.str, .v] : List (PK Sg)) ([.sl C.str] : List (PK Sg)) ([.sl C.str, .str] : List (VT Sg)) ([.sl C.str] : List (VT Sg)) ([.same, .same] : List (VT Sg)) (l, s, ()) (fun r _ => K r.1) := by kernel_rfl
set_option maxRecDepth 100000 in
theorem n_r1_Add : Meets Go.Proofs.Tryz.prog D 49 (k_r1_Add P_r1_Add) := meets3 (E := EX_r1_Add) h_E0 fun a K => eqS_r1_Add a.1 a.2.1 (fun q0 => K (q0, ()) ((), (), ()))
theorem ent_r11_refers : Ent Go.Proofs.Tryz.prog 32 := ent_at (by kernel_rfl) (by kernel_rfl) (by kernel_rfl)
noncomputable def k_r11_refers (X : T_r11_refers) : Con Sg := conV ([.sl C.str, .el C.ex] : List (PK Sg)) ([.sl C.str, .el C.ex] : List (VT Sg)) ([.sl C.str] : List (VT Sg)) ([.same, .same] : List (VT Sg)) (fun a K => X a.1 a.2.1 (fun q0 => K (q0, ()) ((), (), ())))
noncomputable def pl_r11_refers : Nat → Option (Fx.Spec Sg) := findN ([(6, ⟨[1, 3, 4], [0], [], [(.slot 0, .sl C.str)]⟩), (9, ⟨[1, 3, 4], [0], [], [(.slot 0, .sl C.str), (.slot 5, .int IntKind.i64)]⟩)] : List (Nat × Fx.Spec Sg))
noncomputable def EX_r11_refers (X_r1_Add : T_r1_Add) : Ev Sg := (E0.with 49 (k_r1_Add X_r1_Add))
theorem eqS_r11_refers (X_r1_Add : T_r1_Add) (X : T_r11_refers) (l : List (ByteArray)) (e : Ex) (K : List (ByteArray) → Prop) : S_r11_refers X_r1_Add X l e K = fnV (((EX_r11_refers X_r1_Add).with 32 (k_r11_refers X)).pl pl_r11_refers) 4 32 ([.sl C.str, .el C.ex] : List (PK Sg)) ([.sl C.str] : List (PK Sg)) ([.sl C.str, .el C.ex] : List (VT Sg)) ([.sl C.str] : List (VT Sg)) ([.same, .same] : List (VT Sg)) (l, e, ()) (fun r _ => K r.1) := by kernel_rfl
set_option maxRecDepth 100000 in
theorem n_r11_refers : Meets Go.Proofs.Tryz.prog D 32 (k_r11_refers P_r11_refers) := by
  show Meets _ _ _ (conV ([.sl C.str, .el C.ex] : List (PK Sg)) ([.sl C.str, .el C.ex] : List (VT Sg)) ([.sl C.str] : List (VT Sg)) ([.same, .same] : List (VT Sg)) fun a K => P_r11_refers a.1 a.2.1 (fun q0 => K (q0, ()) ((), (), ())))
  refine meetsR (E := EX_r11_refers P_r1_Add) (fuel := 4) (rk := [.sl C.str]) (p := pl_r11_refers) (with3 h_E0 ent_r1_Add n_r1_Add) ent_r11_refers fun a K h X hX => ?_
  exact h (fun l e K => X (l, e, ()) fun r _ => K r.1) (fun l e K hs => hX (l, e, ()) (fun r _ => K r.1) (Eq.mp (eqS_r11_refers P_r1_Add (fun l e K => X (l, e, ()) fun r _ => K r.1) l e K) hs))
theorem ent_r11_Refers : Ent Go.Proofs.Tryz.prog 14 := ent_at (by kernel_rfl) (by kernel_rfl) (by kernel_rfl)
noncomputable def k_r11_Refers (X : T_r11_Refers) : Con Sg := conV ([.el C.ex] : List (PK Sg)) ([.el C.ex] : List (VT Sg)) ([.sl C.str] : List (VT Sg)) ([.same] : List (VT Sg)) (fun a K => X a.1 (fun q0 => K (q0, ()) ((), ())))
noncomputable def pl_r11_Refers : Nat → Option (Fx.Spec Sg) := findN ([] : List (Nat × Fx.Spec Sg))
noncomputable def EX_r11_Refers (X_r11_refers : T_r11_refers) : Ev Sg := (E0.with 32 (k_r11_refers X_r11_refers))
theorem eqS_r11_Refers (X_r11_refers : T_r11_refers) (e : Ex) (K : List (ByteArray) → Prop) : S_r11_Refers X_r11_refers e K = fnV ((EX_r11_Refers X_r11_refers).pl pl_r11_Refers) 4 14 ([.el C.ex] : List (PK Sg)) ([.sl C.str] : List (PK Sg)) ([.el C.ex] : List (VT Sg)) ([.sl C.str] : List (VT Sg)) ([.same] : List (VT Sg)) (e, ()) (fun r _ => K r.1) := by kernel_rfl
set_option maxRecDepth 100000 in
theorem n_r11_Refers : Meets Go.Proofs.Tryz.prog D 14 (k_r11_Refers P_r11_Refers) := meets3 (E := EX_r11_Refers P_r11_refers) (with3 h_E0 ent_r11_refers n_r11_refers) fun a K => eqS_r11_Refers P_r11_refers a.1 (fun q0 => K (q0, ()) ((), ()))
theorem ent_r11_Edges : Ent Go.Proofs.Tryz.prog 36 := ent_at (by kernel_rfl) (by kernel_rfl) (by kernel_rfl)
noncomputable def k_r11_Edges (X : T_r11_Edges) : Con Sg := conV ([.sl C.seg] : List (PK Sg)) ([.sl C.seg] : List (VT Sg)) ([.vec 79 C.edge] : List (VT Sg)) ([.same] : List (VT Sg)) (fun a K => X a.1 (fun q0 => K (q0, ()) ((), ())))
noncomputable def pl_r11_Edges : Nat → Option (Fx.Spec Sg) := findN ([(7, ⟨[0, 2], [], [], [(.slot 3, .own 79 C.edge), (.slot 4, .int IntKind.i64)]⟩), (15, ⟨[0, 2, 4, 5, 7, 8, 9, 10, 13, 14, 15, 16, 17, 18], [], [], [(.slot 3, .own 79 C.edge), (.slot 6, .int IntKind.i64)]⟩)] : List (Nat × Fx.Spec Sg))
noncomputable def EX_r11_Edges (X_r11_Refers : T_r11_Refers) : Ev Sg := (E0.with 14 (k_r11_Refers X_r11_Refers))
theorem eqS_r11_Edges (X_r11_Refers : T_r11_Refers) (l : List (Seg)) (K : List (Edg) → Prop) : S_r11_Edges X_r11_Refers l K = fnV ((EX_r11_Edges X_r11_Refers).pl pl_r11_Edges) 4 36 ([.sl C.seg] : List (PK Sg)) ([.own 79 C.edge] : List (PK Sg)) ([.sl C.seg] : List (VT Sg)) ([.vec 79 C.edge] : List (VT Sg)) ([.same] : List (VT Sg)) (l, ()) (fun r _ => K r.1) := by kernel_rfl
set_option maxRecDepth 100000 in
theorem n_r11_Edges : Meets Go.Proofs.Tryz.prog D 36 (k_r11_Edges P_r11_Edges) := meets3 (E := EX_r11_Edges P_r11_Refers) (with3 h_E0 ent_r11_Refers n_r11_Refers) fun a K => eqS_r11_Edges P_r11_Refers a.1 (fun q0 => K (q0, ()) ((), ()))
end Go.En
end
section
open Go Go.RowKit Go.Fl Go.Fl.Lk Go.Fx
namespace Go.En
theorem ent_clause_test : Ent Go.Proofs.Tryz.prog 86 := ent_at (by kernel_rfl) (by kernel_rfl) (by kernel_rfl)
noncomputable def k_clause_test (X : T_clause_test) : Con Sg := conV ([.v] : List (PK Sg)) ([.int .i64] : List (VT Sg)) ([.bool] : List (VT Sg)) ([.same] : List (VT Sg)) (fun a K => X a.1 (fun q0 => K (q0, ()) ((), ())))
noncomputable def pl_clause_test : Nat → Option (Fx.Spec Sg) := findN ([] : List (Nat × Fx.Spec Sg))
noncomputable def EX_clause_test : Ev Sg := E0
theorem eqS_clause_test (op : Int) (K : Bool → Prop) : P_clause_test op K = fnV ((EX_clause_test).pl pl_clause_test) 4 86 ([.v] : List (PK Sg)) ([.v] : List (PK Sg)) ([.int .i64] : List (VT Sg)) ([.bool] : List (VT Sg)) ([.same] : List (VT Sg)) (op, ()) (fun r _ => K r.1) := by kernel_rfl
set_option maxRecDepth 100000 in
theorem n_clause_test : Meets Go.Proofs.Tryz.prog D 86 (k_clause_test P_clause_test) := meets3 (E := EX_clause_test) h_E0 fun a K => eqS_clause_test a.1 (fun q0 => K (q0, ()) ((), ()))
theorem ent_slices_Equal_string_string_ : Ent Go.Proofs.Tryz.prog 178 := ent_at (by kernel_rfl) (by kernel_rfl) (by kernel_rfl)
noncomputable def k_slices_Equal_string_string_ (X : T_slices_Equal_string_string_) : Con Sg := conV ([.sl C.str, .sl C.str] : List (PK Sg)) ([.sl C.str, .sl C.str] : List (VT Sg)) ([.bool] : List (VT Sg)) ([.same, .same] : List (VT Sg)) (fun a K => X a.1 a.2.1 (fun q0 => K (q0, ()) ((), (), ())))
noncomputable def pl_slices_Equal_string_string_ : Nat → Option (Fx.Spec Sg) := findN ([(9, ⟨[0, 1, 6, 7, 8, 9, 10, 11, 12], [], [], [(.slot 13, .int IntKind.i64)]⟩)] : List (Nat × Fx.Spec Sg))
noncomputable def EX_slices_Equal_string_string_ : Ev Sg := E0
theorem eqS_slices_Equal_string_string_ (s1 : List (ByteArray)) (s2 : List (ByteArray)) (K : Bool → Prop) : P_slices_Equal_string_string_ s1 s2 K = fnV ((EX_slices_Equal_string_string_).pl pl_slices_Equal_string_string_) 4 178 ([.sl C.str, .sl C.str] : List (PK Sg)) ([.v] : List (PK Sg)) ([.sl C.str, .sl C.str] : List (VT Sg)) ([.bool] : List (VT Sg)) ([.same, .same] : List (VT Sg)) (s1, s2, ()) (fun r _ => K r.1) := by kernel_rfl
set_option maxRecDepth 100000 in
theorem n_slices_Equal_string_string_ : Meets Go.Proofs.Tryz.prog D 178 (k_slices_Equal_string_string_ P_slices_Equal_string_string_) := meets3 (E := EX_slices_Equal_string_string_) h_E0 fun a K => eqS_slices_Equal_string_string_ a.1 a.2.1 (fun q0 => K (q0, ()) ((), (), ()))
end Go.En
end
section
open Go Go.RowKit Go.Fl Go.Fl.Lk Go.Fx
namespace Go.En
theorem ent_same_Value : Ent Go.Proofs.Tryz.prog 131 := ent_at (by kernel_rfl) (by kernel_rfl) (by kernel_rfl)
noncomputable def k_same_Value (X : T_same_Value) : Con Sg := conV ([.el C.val, .el C.val] : List (PK Sg)) ([.el C.val, .el C.val] : List (VT Sg)) ([.bool] : List (VT Sg)) ([.same, .same] : List (VT Sg)) (fun a K => X a.1 a.2.1 (fun q0 => K (q0, ()) ((), (), ())))
noncomputable def pl_same_Value : Nat → Option (Fx.Spec Sg) := findN ([] : List (Nat × Fx.Spec Sg))
noncomputable def EX_same_Value (X_slices_Equal_string_string_ : T_slices_Equal_string_string_) : Ev Sg := (E0.with 178 (k_slices_Equal_string_string_ X_slices_Equal_string_string_))
theorem eqS_same_Value (X_slices_Equal_string_string_ : T_slices_Equal_string_string_) (a : Val) (b : Val) (K : Bool → Prop) : S_same_Value X_slices_Equal_string_string_ a b K = fnV ((EX_same_Value X_slices_Equal_string_string_).pl pl_same_Value) 4 131 ([.el C.val, .el C.val] : List (PK Sg)) ([.v] : List (PK Sg)) ([.el C.val, .el C.val] : List (VT Sg)) ([.bool] : List (VT Sg)) ([.same, .same] : List (VT Sg)) (a, b, ()) (fun r _ => K r.1) := by kernel_rfl
set_option maxRecDepth 100000 in
theorem n_same_Value : Meets Go.Proofs.Tryz.prog D 131 (k_same_Value P_same_Value) := meets3 (E := EX_same_Value P_slices_Equal_string_string_) (with3 h_E0 ent_slices_Equal_string_string_ n_slices_Equal_string_string_) fun a K => eqS_same_Value P_slices_Equal_string_string_ a.1 a.2.1 (fun q0 => K (q0, ()) ((), (), ()))
theorem ent_same_Expr : Ent Go.Proofs.Tryz.prog 89 := ent_at (by kernel_rfl) (by kernel_rfl) (by kernel_rfl)
noncomputable def k_same_Expr (X : T_same_Expr) : Con Sg := conV ([.el C.ex, .el C.ex] : List (PK Sg)) ([.el C.ex, .el C.ex] : List (VT Sg)) ([.bool] : List (VT Sg)) ([.same, .same] : List (VT Sg)) (fun a K => X a.1 a.2.1 (fun q0 => K (q0, ()) ((), (), ())))
noncomputable def pl_same_Expr : Nat → Option (Fx.Spec Sg) := findN ([(131000009, ⟨[0, 1, 2, 10, 11, 12, 13, 14, 15, 16], [], [], [(.slot 17, .int IntKind.i64)]⟩), (133000009, ⟨[0, 1, 2, 10, 11, 12, 13, 14, 15, 16], [], [], [(.slot 17, .int IntKind.i64)]⟩)] : List (Nat × Fx.Spec Sg))
noncomputable def EX_same_Expr (X_same_Value : T_same_Value) : Ev Sg := (E0.with 131 (k_same_Value X_same_Value))
theorem eqS_same_Expr (X_same_Value : T_same_Value) (X : T_same_Expr) (a : Ex) (b : Ex) (K : Bool → Prop) : S_same_Expr X_same_Value X a b K = fnV (((EX_same_Expr X_same_Value).with 89 (k_same_Expr X)).pl pl_same_Expr) 4 89 ([.el C.ex, .el C.ex] : List (PK Sg)) ([.v] : List (PK Sg)) ([.el C.ex, .el C.ex] : List (VT Sg)) ([.bool] : List (VT Sg)) ([.same, .same] : List (VT Sg)) (a, b, ()) (fun r _ => K r.1) := by kernel_rfl
set_option maxRecDepth 100000 in
theorem n_same_Expr : Meets Go.Proofs.Tryz.prog D 89 (k_same_Expr P_same_Expr) := by
  show Meets _ _ _ (conV ([.el C.ex, .el C.ex] : List (PK Sg)) ([.el C.ex, .el C.ex] : List (VT Sg)) ([.bool] : List (VT Sg)) ([.same, .same] : List (VT Sg)) fun a K => P_same_Expr a.1 a.2.1 (fun q0 => K (q0, ()) ((), (), ())))
  refine meetsR (E := EX_same_Expr P_same_Value) (fuel := 4) (rk := [.v]) (p := pl_same_Expr) (with3 h_E0 ent_same_Value n_same_Value) ent_same_Expr fun a K h X hX => ?_
  exact h (fun a b K => X (a, b, ()) fun r _ => K r.1) (fun a b K hs => hX (a, b, ()) (fun r _ => K r.1) (Eq.mp (eqS_same_Expr P_same_Value (fun a b K => X (a, b, ()) fun r _ => K r.1) a b K) hs))
theorem ent_clause_atoms : Ent Go.Proofs.Tryz.prog 55 := ent_at (by kernel_rfl) (by kernel_rfl) (by kernel_rfl)
noncomputable def k_clause_atoms (X : T_clause_atoms) : Con Sg := conV ([.own 26 C.ex, .el C.ex] : List (PK Sg)) ([.vec 26 C.ex, .el C.ex] : List (VT Sg)) ([.vec 26 C.ex] : List (VT Sg)) ([.same, .same] : List (VT Sg)) (fun a K => X a.1 a.2.1 (fun q0 => K (q0, ()) ((), (), ())))
noncomputable def pl_clause_atoms : Nat → Option (Fx.Spec Sg) := findN ([(6, ⟨[1, 3, 4], [1], [], [(.slot 0, .own 26 C.ex)]⟩), (9, ⟨[1, 3, 4, 25, 26, 27], [1], [], [(.slot 0, .own 26 C.ex), (.slot 28, .int IntKind.i64)]⟩), (130000005, ⟨[0, 1, 6, 7], [0], [], [(.slot 8, .int IntKind.i64)]⟩)] : List (Nat × Fx.Spec Sg))
noncomputable def EX_clause_atoms (X_clause_test : T_clause_test) (X_same_Expr : T_same_Expr) : Ev Sg := ((E0.with 86 (k_clause_test X_clause_test)).with 89 (k_same_Expr X_same_Expr))
theorem eqS_clause_atoms (X_clause_test : T_clause_test) (X_same_Expr : T_same_Expr) (X : T_clause_atoms) (l : List (Ex)) (e : Ex) (K : List (Ex) → Prop) : S_clause_atoms X_clause_test X_same_Expr X l e K = fnV (((EX_clause_atoms X_clause_test X_same_Expr).with 55 (k_clause_atoms X)).pl pl_clause_atoms) 4 55 ([.own 26 C.ex, .el C.ex] : List (PK Sg)) ([.own 26 C.ex] : List (PK Sg)) ([.vec 26 C.ex, .el C.ex] : List (VT Sg)) ([.vec 26 C.ex] : List (VT Sg)) ([.same, .same] : List (VT Sg)) (l, e, ()) (fun r _ => K r.1) := by kernel_rfl
set_option maxRecDepth 100000 in
theorem n_clause_atoms : Meets Go.Proofs.Tryz.prog D 55 (k_clause_atoms P_clause_atoms) := by
  show Meets _ _ _ (conV ([.own 26 C.ex, .el C.ex] : List (PK Sg)) ([.vec 26 C.ex, .el C.ex] : List (VT Sg)) ([.vec 26 C.ex] : List (VT Sg)) ([.same, .same] : List (VT Sg)) fun a K => P_clause_atoms a.1 a.2.1 (fun q0 => K (q0, ()) ((), (), ())))
  refine meetsR (E := EX_clause_atoms P_clause_test P_same_Expr) (fuel := 4) (rk := [.own 26 C.ex]) (p := pl_clause_atoms) (with3 (with3 h_E0 ent_clause_test n_clause_test) ent_same_Expr n_same_Expr) ent_clause_atoms fun a K h X hX => ?_
  exact h (fun l e K => X (l, e, ()) fun r _ => K r.1) (fun l e K hs => hX (l, e, ()) (fun r _ => K r.1) (Eq.mp (eqS_clause_atoms P_clause_test P_same_Expr (fun l e K => X (l, e, ()) fun r _ => K r.1) l e K) hs))
theorem ent_clone_Value : Ent Go.Proofs.Tryz.prog 91 := ent_at (by kernel_rfl) (by kernel_rfl) (by kernel_rfl)
noncomputable def k_clone_Value (X : T_clone_Value) : Con Sg := conV ([.el C.val] : List (PK Sg)) ([.el C.val] : List (VT Sg)) ([.el C.val] : List (VT Sg)) ([.same] : List (VT Sg)) (fun a K => X a.1 (fun q0 => K (q0, ()) ((), ())))
noncomputable def pl_clone_Value : Nat → Option (Fx.Spec Sg) := findN ([] : List (Nat × Fx.Spec Sg))
noncomputable def EX_clone_Value : Ev Sg := E0
theorem eqS_clone_Value (v : Val) (K : Val → Prop) : P_clone_Value v K = fnV ((EX_clone_Value).pl pl_clone_Value) 4 91 ([.el C.val] : List (PK Sg)) ([.el C.val] : List (PK Sg)) ([.el C.val] : List (VT Sg)) ([.el C.val] : List (VT Sg)) ([.same] : List (VT Sg)) (v, ()) (fun r _ => K r.1) := by kernel_rfl
set_option maxRecDepth 100000 in
theorem n_clone_Value : Meets Go.Proofs.Tryz.prog D 91 (k_clone_Value P_clone_Value) := meets3 (E := EX_clone_Value) h_E0 fun a K => eqS_clone_Value a.1 (fun q0 => K (q0, ()) ((), ()))
theorem ent_clone_Expr : Ent Go.Proofs.Tryz.prog 56 := ent_at (by kernel_rfl) (by kernel_rfl) (by kernel_rfl)
noncomputable def k_clone_Expr (X : T_clone_Expr) : Con Sg := conV ([.el C.ex] : List (PK Sg)) ([.el C.ex] : List (VT Sg)) ([.el C.ex] : List (VT Sg)) ([.same] : List (VT Sg)) (fun a K => X a.1 (fun q0 => K (q0, ()) ((), ())))
noncomputable def pl_clone_Expr : Nat → Option (Fx.Spec Sg) := findN ([(91000007, ⟨[0, 1, 4, 8, 9, 10, 11, 12], [], [], [(.slot 5, .own 112 C.val), (.slot 13, .int IntKind.i64)]⟩), (55000007, ⟨[0, 1, 4, 8, 9, 10, 11, 12], [], [], [(.slot 5, .own 26 C.ex), (.slot 13, .int IntKind.i64)]⟩)] : List (Nat × Fx.Spec Sg))
noncomputable def EX_clone_Expr (X_clone_Value : T_clone_Value) : Ev Sg := (E0.with 91 (k_clone_Value X_clone_Value))
theorem eqS_clone_Expr (X_clone_Value : T_clone_Value) (X : T_clone_Expr) (e : Ex) (K : Ex → Prop) : S_clone_Expr X_clone_Value X e K = fnV (((EX_clone_Expr X_clone_Value).with 56 (k_clone_Expr X)).pl pl_clone_Expr) 4 56 ([.el C.ex] : List (PK Sg)) ([.el C.ex] : List (PK Sg)) ([.el C.ex] : List (VT Sg)) ([.el C.ex] : List (VT Sg)) ([.same] : List (VT Sg)) (e, ()) (fun r _ => K r.1) := by kernel_rfl
set_option maxRecDepth 100000 in
theorem n_clone_Expr : Meets Go.Proofs.Tryz.prog D 56 (k_clone_Expr P_clone_Expr) := by
  show Meets _ _ _ (conV ([.el C.ex] : List (PK Sg)) ([.el C.ex] : List (VT Sg)) ([.el C.ex] : List (VT Sg)) ([.same] : List (VT Sg)) fun a K => P_clone_Expr a.1 (fun q0 => K (q0, ()) ((), ())))
  refine meetsR (E := EX_clone_Expr P_clone_Value) (fuel := 4) (rk := [.el C.ex]) (p := pl_clone_Expr) (with3 h_E0 ent_clone_Value n_clone_Value) ent_clone_Expr fun a K h X hX => ?_
  exact h (fun e K => X (e, ()) fun r _ => K r.1) (fun e K hs => hX (e, ()) (fun r _ => K r.1) (Eq.mp (eqS_clone_Expr P_clone_Value (fun e K => X (e, ()) fun r _ => K r.1) e K) hs))
theorem ent_clause_Atoms : Ent Go.Proofs.Tryz.prog 29 := ent_at (by kernel_rfl) (by kernel_rfl) (by kernel_rfl)
noncomputable def k_clause_Atoms (X : T_clause_Atoms) : Con Sg := conV ([.el C.ex] : List (PK Sg)) ([.el C.ex] : List (VT Sg)) ([.vec 26 C.ex] : List (VT Sg)) ([.same] : List (VT Sg)) (fun a K => X a.1 (fun q0 => K (q0, ()) ((), ())))
noncomputable def pl_clause_Atoms : Nat → Option (Fx.Spec Sg) := findN ([(55000007, ⟨[0, 1, 4, 8, 9, 10, 11, 12], [1], [], [(.slot 5, .own 26 C.ex), (.slot 13, .int IntKind.i64)]⟩)] : List (Nat × Fx.Spec Sg))
noncomputable def EX_clause_Atoms (X_clause_atoms : T_clause_atoms) (X_clone_Expr : T_clone_Expr) : Ev Sg := ((E0.with 55 (k_clause_atoms X_clause_atoms)).with 56 (k_clone_Expr X_clone_Expr))
theorem eqS_clause_Atoms (X_clause_atoms : T_clause_atoms) (X_clone_Expr : T_clone_Expr) (e : Ex) (K : List (Ex) → Prop) : S_clause_Atoms X_clause_atoms X_clone_Expr e K = fnV ((EX_clause_Atoms X_clause_atoms X_clone_Expr).pl pl_clause_Atoms) 4 29 ([.el C.ex] : List (PK Sg)) ([.own 26 C.ex] : List (PK Sg)) ([.el C.ex] : List (VT Sg)) ([.vec 26 C.ex] : List (VT Sg)) ([.same] : List (VT Sg)) (e, ()) (fun r _ => K r.1) := by kernel_rfl
set_option maxRecDepth 100000 in
theorem n_clause_Atoms : Meets Go.Proofs.Tryz.prog D 29 (k_clause_Atoms P_clause_Atoms) := meets3 (E := EX_clause_Atoms P_clause_atoms P_clone_Expr) (with3 (with3 h_E0 ent_clause_atoms n_clause_atoms) ent_clone_Expr n_clone_Expr) fun a K => eqS_clause_Atoms P_clause_atoms P_clone_Expr a.1 (fun q0 => K (q0, ()) ((), ()))
theorem ent_slices_Sort_string_string_ : Ent Go.Proofs.Tryz.prog 30 := ent_at (by kernel_rfl) (by kernel_rfl) (by kernel_rfl)
noncomputable def k_slices_Sort_string_string_ (X : T_slices_Sort_string_string_) : Con Sg := conV ([.own 9 C.str] : List (PK Sg)) ([.vec 9 C.str] : List (VT Sg)) ([] : List (VT Sg)) ([.vec 9 C.str] : List (VT Sg)) (fun a K => X a.1 (fun q0 => K () (q0, ())))
theorem n_slices_Sort_string_string_ : Meets Go.Proofs.Tryz.prog D 30 (k_slices_Sort_string_string_ P_slices_Sort_string_string_) := h_slices_Sort_string_string_
theorem ent_slices_Compact_string_string_ : Ent Go.Proofs.Tryz.prog 31 := ent_at (by kernel_rfl) (by kernel_rfl) (by kernel_rfl)
noncomputable def k_slices_Compact_string_string_ (X : T_slices_Compact_string_string_) : Con Sg := conV ([.own 9 C.str] : List (PK Sg)) ([.vec 9 C.str] : List (VT Sg)) ([.vec 9 C.str] : List (VT Sg)) ([.same] : List (VT Sg)) (fun a K => X a.1 (fun q0 => K (q0, ()) ((), ())))
theorem n_slices_Compact_string_string_ : Meets Go.Proofs.Tryz.prog D 31 (k_slices_Compact_string_string_ P_slices_Compact_string_string_) := h_slices_Compact_string_string_
theorem ent_segment_Refers : Ent Go.Proofs.Tryz.prog 13 := ent_at (by kernel_rfl) (by kernel_rfl) (by kernel_rfl)
noncomputable def k_segment_Refers (X : T_segment_Refers) : Con Sg := conV ([.el C.ex] : List (PK Sg)) ([.el C.ex] : List (VT Sg)) ([.sl C.str] : List (VT Sg)) ([.same] : List (VT Sg)) (fun a K => X a.1 (fun q0 => K (q0, ()) ((), ())))
noncomputable def pl_segment_Refers : Nat → Option (Fx.Spec Sg) := findN ([(7, ⟨[0, 1, 2, 6, 7, 8], [1, 0], [], [(.slot 3, .own 9 C.str), (.slot 9, .int IntKind.i64)]⟩)] : List (Nat × Fx.Spec Sg))
noncomputable def EX_segment_Refers (X_clause_Atoms : T_clause_Atoms) (X_slices_Sort_string_string_ : T_slices_Sort_string_string_) (X_slices_Compact_string_string_ : T_slices_Compact_string_string_) : Ev Sg := (((E0.with 29 (k_clause_Atoms X_clause_Atoms)).with 30 (k_slices_Sort_string_string_ X_slices_Sort_string_string_)).with 31 (k_slices_Compact_string_string_ X_slices_Compact_string_string_))
theorem eqS_segment_Refers (X_clause_Atoms : T_clause_Atoms) (X_slices_Sort_string_string_ : T_slices_Sort_string_string_) (X_slices_Compact_string_string_ : T_slices_Compact_string_string_) (e : Ex) (K : List (ByteArray) → Prop) : S_segment_Refers X_clause_Atoms X_slices_Sort_string_string_ X_slices_Compact_string_string_ e K = fnV ((EX_segment_Refers X_clause_Atoms X_slices_Sort_string_string_ X_slices_Compact_string_string_).pl pl_segment_Refers) 4 13 ([.el C.ex] : List (PK Sg)) ([.sl C.str] : List (PK Sg)) ([.el C.ex] : List (VT Sg)) ([.sl C.str] : List (VT Sg)) ([.same] : List (VT Sg)) (e, ()) (fun r _ => K r.1) := by kernel_rfl
set_option maxRecDepth 100000 in
theorem n_segment_Refers : Meets Go.Proofs.Tryz.prog D 13 (k_segment_Refers P_segment_Refers) := meets3 (E := EX_segment_Refers P_clause_Atoms P_slices_Sort_string_string_ P_slices_Compact_string_string_) (with3 (with3 (with3 h_E0 ent_clause_Atoms n_clause_Atoms) ent_slices_Sort_string_string_ n_slices_Sort_string_string_) ent_slices_Compact_string_string_ n_slices_Compact_string_string_) fun a K => eqS_segment_Refers P_clause_Atoms P_slices_Sort_string_string_ P_slices_Compact_string_string_ a.1 (fun q0 => K (q0, ()) ((), ()))
theorem ent_graph_Order : Ent Go.Proofs.Tryz.prog 33 := ent_at (by kernel_rfl) (by kernel_rfl) (by kernel_rfl)
noncomputable def k_graph_Order (X : T_graph_Order) : Con Sg := conV ([.sl C.str, .sl C.edge] : List (PK Sg)) ([.sl C.str, .sl C.edge] : List (VT Sg)) ([.vec 9 C.str, .int .i64] : List (VT Sg)) ([.same, .same] : List (VT Sg)) (fun a K => X a.1 a.2.1 (fun q0 q1 => K (q0, q1, ()) ((), (), ())))
theorem n_graph_Order : Meets Go.Proofs.Tryz.prog D 33 (k_graph_Order P_graph_Order) := h_graph_Order
theorem ent_segment_Order : Ent Go.Proofs.Tryz.prog 15 := ent_at (by kernel_rfl) (by kernel_rfl) (by kernel_rfl)
noncomputable def k_segment_Order (X : T_segment_Order) : Con Sg := conV ([.sl C.seg] : List (PK Sg)) ([.sl C.seg] : List (VT Sg)) ([.vec 9 C.str, .int .i64] : List (VT Sg)) ([.same] : List (VT Sg)) (fun a K => X a.1 (fun q0 q1 => K (q0, q1, ()) ((), ())))
noncomputable def pl_segment_Order : Nat → Option (Fx.Spec Sg) := findN ([(9, ⟨[0, 2, 3, 10, 11], [], [], [(.slot 4, .own 9 C.str), (.slot 5, .own 79 C.edge), (.slot 12, .int IntKind.i64)]⟩), (17, ⟨[0, 2, 3, 4, 7, 10, 11, 12, 13, 14, 15, 17, 18, 19, 20, 21, 22, 23, 24], [6, 5, 3], [], [(.slot 5, .own 79 C.edge), (.slot 25, .int IntKind.i64)]⟩)] : List (Nat × Fx.Spec Sg))
noncomputable def EX_segment_Order (X_segment_Refers : T_segment_Refers) (X_graph_Order : T_graph_Order) : Ev Sg := ((E0.with 13 (k_segment_Refers X_segment_Refers)).with 33 (k_graph_Order X_graph_Order))
theorem eqS_segment_Order (X_segment_Refers : T_segment_Refers) (X_graph_Order : T_graph_Order) (l : List (Seg)) (K : List (ByteArray) → Int → Prop) : S_segment_Order X_segment_Refers X_graph_Order l K = fnV ((EX_segment_Order X_segment_Refers X_graph_Order).pl pl_segment_Order) 4 15 ([.sl C.seg] : List (PK Sg)) ([.own 9 C.str, .v] : List (PK Sg)) ([.sl C.seg] : List (VT Sg)) ([.vec 9 C.str, .int .i64] : List (VT Sg)) ([.same] : List (VT Sg)) (l, ()) (fun r _ => K r.1 r.2.1) := by kernel_rfl
set_option maxRecDepth 100000 in
theorem n_segment_Order : Meets Go.Proofs.Tryz.prog D 15 (k_segment_Order P_segment_Order) := meets3 (E := EX_segment_Order P_segment_Refers P_graph_Order) (with3 (with3 h_E0 ent_segment_Refers n_segment_Refers) ent_graph_Order n_graph_Order) fun a K => eqS_segment_Order P_segment_Refers P_graph_Order a.1 (fun q0 q1 => K (q0, q1, ()) ((), ()))
theorem ent_subject_index : Ent Go.Proofs.Tryz.prog 121 := ent_at (by kernel_rfl) (by kernel_rfl) (by kernel_rfl)
noncomputable def k_subject_index (X : T_subject_index) : Con Sg := conV ([.el C.subj, .v] : List (PK Sg)) ([.el C.subj, .str] : List (VT Sg)) ([.int .i64] : List (VT Sg)) ([.same, .same] : List (VT Sg)) (fun a K => X a.1 a.2.1 (fun q0 => K (q0, ()) ((), (), ())))
noncomputable def pl_subject_index : Nat → Option (Fx.Spec Sg) := findN ([(163000005, ⟨[0, 1, 6, 7], [1], [], [(.slot 8, .int IntKind.i64)]⟩)] : List (Nat × Fx.Spec Sg))
noncomputable def EX_subject_index : Ev Sg := E0
theorem eqS_subject_index (s : Subj) (kind : ByteArray) (K : Int → Prop) : P_subject_index s kind K = fnV ((EX_subject_index).pl pl_subject_index) 4 121 ([.el C.subj, .v] : List (PK Sg)) ([.v] : List (PK Sg)) ([.el C.subj, .str] : List (VT Sg)) ([.int .i64] : List (VT Sg)) ([.same, .same] : List (VT Sg)) (s, kind, ()) (fun r _ => K r.1) := by kernel_rfl
set_option maxRecDepth 100000 in
theorem n_subject_index : Meets Go.Proofs.Tryz.prog D 121 (k_subject_index P_subject_index) := meets3 (E := EX_subject_index) h_E0 fun a K => eqS_subject_index a.1 a.2.1 (fun q0 => K (q0, ()) ((), (), ()))
end Go.En
end
section
open Go Go.RowKit Go.Fl Go.Fl.Lk Go.Fx
namespace Go.En
theorem ent_clone_Attribute : Ent Go.Proofs.Tryz.prog 165 := ent_at (by kernel_rfl) (by kernel_rfl) (by kernel_rfl)
noncomputable def k_clone_Attribute (X : T_clone_Attribute) : Con Sg := conV ([.el C.attr] : List (PK Sg)) ([.el C.attr] : List (VT Sg)) ([.el C.attr] : List (VT Sg)) ([.same] : List (VT Sg)) (fun a K => X a.1 (fun q0 => K (q0, ()) ((), ())))
noncomputable def pl_clone_Attribute : Nat → Option (Fx.Spec Sg) := findN ([] : List (Nat × Fx.Spec Sg))
noncomputable def EX_clone_Attribute (X_clone_Value : T_clone_Value) : Ev Sg := (E0.with 91 (k_clone_Value X_clone_Value))
theorem eqS_clone_Attribute (X_clone_Value : T_clone_Value) (a : Attr) (K : Attr → Prop) : S_clone_Attribute X_clone_Value a K = fnV ((EX_clone_Attribute X_clone_Value).pl pl_clone_Attribute) 4 165 ([.el C.attr] : List (PK Sg)) ([.el C.attr] : List (PK Sg)) ([.el C.attr] : List (VT Sg)) ([.el C.attr] : List (VT Sg)) ([.same] : List (VT Sg)) (a, ()) (fun r _ => K r.1) := by kernel_rfl
set_option maxRecDepth 100000 in
theorem n_clone_Attribute : Meets Go.Proofs.Tryz.prog D 165 (k_clone_Attribute P_clone_Attribute) := meets3 (E := EX_clone_Attribute P_clone_Value) (with3 h_E0 ent_clone_Value n_clone_Value) fun a K => eqS_clone_Attribute P_clone_Value a.1 (fun q0 => K (q0, ()) ((), ()))
theorem ent_clone_Context : Ent Go.Proofs.Tryz.prog 122 := ent_at (by kernel_rfl) (by kernel_rfl) (by kernel_rfl)
noncomputable def k_clone_Context (X : T_clone_Context) : Con Sg := conV ([.el C.ctx] : List (PK Sg)) ([.el C.ctx] : List (VT Sg)) ([.el C.ctx] : List (VT Sg)) ([.same] : List (VT Sg)) (fun a K => X a.1 (fun q0 => K (q0, ()) ((), ())))
noncomputable def pl_clone_Context : Nat → Option (Fx.Spec Sg) := findN ([(165000007, ⟨[0, 1, 4, 8, 9, 10, 11, 12], [], [], [(.slot 5, .own 157 C.attr), (.slot 13, .int IntKind.i64)]⟩)] : List (Nat × Fx.Spec Sg))
noncomputable def EX_clone_Context (X_clone_Attribute : T_clone_Attribute) : Ev Sg := (E0.with 165 (k_clone_Attribute X_clone_Attribute))
theorem eqS_clone_Context (X_clone_Attribute : T_clone_Attribute) (c : Ctxt) (K : Ctxt → Prop) : S_clone_Context X_clone_Attribute c K = fnV ((EX_clone_Context X_clone_Attribute).pl pl_clone_Context) 4 122 ([.el C.ctx] : List (PK Sg)) ([.el C.ctx] : List (PK Sg)) ([.el C.ctx] : List (VT Sg)) ([.el C.ctx] : List (VT Sg)) ([.same] : List (VT Sg)) (c, ()) (fun r _ => K r.1) := by kernel_rfl
set_option maxRecDepth 100000 in
theorem n_clone_Context : Meets Go.Proofs.Tryz.prog D 122 (k_clone_Context P_clone_Context) := meets3 (E := EX_clone_Context P_clone_Attribute) (with3 h_E0 ent_clone_Attribute n_clone_Attribute) fun a K => eqS_clone_Context P_clone_Attribute a.1 (fun q0 => K (q0, ()) ((), ()))
theorem ent_subject_Find : Ent Go.Proofs.Tryz.prog 76 := ent_at (by kernel_rfl) (by kernel_rfl) (by kernel_rfl)
noncomputable def k_subject_Find (X : T_subject_Find) : Con Sg := conV ([.el C.subj, .v] : List (PK Sg)) ([.el C.subj, .str] : List (VT Sg)) ([.el C.ctx, .bool] : List (VT Sg)) ([.same, .same] : List (VT Sg)) (fun a K => X a.1 a.2.1 (fun q0 q1 => K (q0, q1, ()) ((), (), ())))
noncomputable def pl_subject_Find : Nat → Option (Fx.Spec Sg) := findN ([] : List (Nat × Fx.Spec Sg))
noncomputable def EX_subject_Find (X_subject_index : T_subject_index) (X_clone_Context : T_clone_Context) : Ev Sg := ((E0.with 121 (k_subject_index X_subject_index)).with 122 (k_clone_Context X_clone_Context))
theorem eqS_subject_Find (X_subject_index : T_subject_index) (X_clone_Context : T_clone_Context) (s : Subj) (kind : ByteArray) (K : Ctxt → Bool → Prop) : S_subject_Find X_subject_index X_clone_Context s kind K = fnV ((EX_subject_Find X_subject_index X_clone_Context).pl pl_subject_Find) 4 76 ([.el C.subj, .v] : List (PK Sg)) ([.el C.ctx, .v] : List (PK Sg)) ([.el C.subj, .str] : List (VT Sg)) ([.el C.ctx, .bool] : List (VT Sg)) ([.same, .same] : List (VT Sg)) (s, kind, ()) (fun r _ => K r.1 r.2.1) := by kernel_rfl
set_option maxRecDepth 100000 in
theorem n_subject_Find : Meets Go.Proofs.Tryz.prog D 76 (k_subject_Find P_subject_Find) := meets3 (E := EX_subject_Find P_subject_index P_clone_Context) (with3 (with3 h_E0 ent_subject_index n_subject_index) ent_clone_Context n_clone_Context) fun a K => eqS_subject_Find P_subject_index P_clone_Context a.1 a.2.1 (fun q0 q1 => K (q0, q1, ()) ((), (), ()))
theorem ent_subject_Lookup : Ent Go.Proofs.Tryz.prog 166 := ent_at (by kernel_rfl) (by kernel_rfl) (by kernel_rfl)
noncomputable def k_subject_Lookup (X : T_subject_Lookup) : Con Sg := conV ([.el C.subj, .v, .v] : List (PK Sg)) ([.el C.subj, .str, .str] : List (VT Sg)) ([.el C.val, .bool] : List (VT Sg)) ([.same, .same, .same] : List (VT Sg)) (fun a K => X a.1 a.2.1 a.2.2.1 (fun q0 q1 => K (q0, q1, ()) ((), (), (), ())))
noncomputable def pl_subject_Lookup : Nat → Option (Fx.Spec Sg) := findN ([(17, ⟨[0, 1, 2, 3, 6, 8, 9, 12, 13, 14, 15, 16, 18, 19, 20, 21, 22, 23, 24, 28, 29, 30], [2, 0], [(1, (112, 4))], [(.slot 31, .int IntKind.i64), (.cell 1 0, .int IntKind.i64), (.cell 1 1, .int IntKind.i64), (.cell 1 2, .str), (.cell 1 3, .sl C.str)]⟩)] : List (Nat × Fx.Spec Sg))
noncomputable def EX_subject_Lookup (X_subject_index : T_subject_index) (X_clone_Value : T_clone_Value) : Ev Sg := ((E0.with 121 (k_subject_index X_subject_index)).with 91 (k_clone_Value X_clone_Value))
theorem eqS_subject_Lookup (X_subject_index : T_subject_index) (X_clone_Value : T_clone_Value) (s : Subj) (kind : ByteArray) (name : ByteArray) (K : Val → Bool → Prop) : S_subject_Lookup X_subject_index X_clone_Value s kind name K = fnV ((EX_subject_Lookup X_subject_index X_clone_Value).pl pl_subject_Lookup) 4 166 ([.el C.subj, .v, .v] : List (PK Sg)) ([.el C.val, .v] : List (PK Sg)) ([.el C.subj, .str, .str] : List (VT Sg)) ([.el C.val, .bool] : List (VT Sg)) ([.same, .same, .same] : List (VT Sg)) (s, kind, name, ()) (fun r _ => K r.1 r.2.1) := by kernel_rfl
set_option maxRecDepth 100000 in
theorem n_subject_Lookup : Meets Go.Proofs.Tryz.prog D 166 (k_subject_Lookup P_subject_Lookup) := meets3 (E := EX_subject_Lookup P_subject_index P_clone_Value) (with3 (with3 h_E0 ent_subject_index n_subject_index) ent_clone_Value n_clone_Value) fun a K => eqS_subject_Lookup P_subject_index P_clone_Value a.1 a.2.1 a.2.2.1 (fun q0 q1 => K (q0, q1, ()) ((), (), (), ()))
theorem ent_value_Equal : Ent Go.Proofs.Tryz.prog 169 := ent_at (by kernel_rfl) (by kernel_rfl) (by kernel_rfl)
noncomputable def k_value_Equal (X : T_value_Equal) : Con Sg := conV ([.el C.val, .el C.val] : List (PK Sg)) ([.el C.val, .el C.val] : List (VT Sg)) ([.bool] : List (VT Sg)) ([.same, .same] : List (VT Sg)) (fun a K => X a.1 a.2.1 (fun q0 => K (q0, ()) ((), (), ())))
noncomputable def pl_value_Equal : Nat → Option (Fx.Spec Sg) := findN ([] : List (Nat × Fx.Spec Sg))
noncomputable def EX_value_Equal (X_slices_Equal_string_string_ : T_slices_Equal_string_string_) : Ev Sg := (E0.with 178 (k_slices_Equal_string_string_ X_slices_Equal_string_string_))
theorem eqS_value_Equal (X_slices_Equal_string_string_ : T_slices_Equal_string_string_) (a : Val) (b : Val) (K : Bool → Prop) : S_value_Equal X_slices_Equal_string_string_ a b K = fnV ((EX_value_Equal X_slices_Equal_string_string_).pl pl_value_Equal) 4 169 ([.el C.val, .el C.val] : List (PK Sg)) ([.v] : List (PK Sg)) ([.el C.val, .el C.val] : List (VT Sg)) ([.bool] : List (VT Sg)) ([.same, .same] : List (VT Sg)) (a, b, ()) (fun r _ => K r.1) := by kernel_rfl
set_option maxRecDepth 100000 in
theorem n_value_Equal : Meets Go.Proofs.Tryz.prog D 169 (k_value_Equal P_value_Equal) := meets3 (E := EX_value_Equal P_slices_Equal_string_string_) (with3 h_E0 ent_slices_Equal_string_string_ n_slices_Equal_string_string_) fun a K => eqS_value_Equal P_slices_Equal_string_string_ a.1 a.2.1 (fun q0 => K (q0, ()) ((), (), ()))
theorem ent_stringslite_HasPrefix : Ent Go.Proofs.Tryz.prog 192 := ent_at (by kernel_rfl) (by kernel_rfl) (by kernel_rfl)
noncomputable def k_stringslite_HasPrefix (X : T_stringslite_HasPrefix) : Con Sg := conV ([.v, .v] : List (PK Sg)) ([.str, .str] : List (VT Sg)) ([.bool] : List (VT Sg)) ([.same, .same] : List (VT Sg)) (fun a K => X a.1 a.2.1 (fun q0 => K (q0, ()) ((), (), ())))
noncomputable def pl_stringslite_HasPrefix : Nat → Option (Fx.Spec Sg) := findN ([] : List (Nat × Fx.Spec Sg))
noncomputable def EX_stringslite_HasPrefix : Ev Sg := E0
theorem eqS_stringslite_HasPrefix (s : ByteArray) (prefix_ : ByteArray) (K : Bool → Prop) : P_stringslite_HasPrefix s prefix_ K = fnV ((EX_stringslite_HasPrefix).pl pl_stringslite_HasPrefix) 4 192 ([.v, .v] : List (PK Sg)) ([.v] : List (PK Sg)) ([.str, .str] : List (VT Sg)) ([.bool] : List (VT Sg)) ([.same, .same] : List (VT Sg)) (s, prefix_, ()) (fun r _ => K r.1) := by kernel_rfl
set_option maxRecDepth 100000 in
theorem n_stringslite_HasPrefix : Meets Go.Proofs.Tryz.prog D 192 (k_stringslite_HasPrefix P_stringslite_HasPrefix) := meets3 (E := EX_stringslite_HasPrefix) h_E0 fun a K => eqS_stringslite_HasPrefix a.1 a.2.1 (fun q0 => K (q0, ()) ((), (), ()))
theorem ent_strings_HasPrefix : Ent Go.Proofs.Tryz.prog 170 := ent_at (by kernel_rfl) (by kernel_rfl) (by kernel_rfl)
noncomputable def k_strings_HasPrefix (X : T_strings_HasPrefix) : Con Sg := conV ([.v, .v] : List (PK Sg)) ([.str, .str] : List (VT Sg)) ([.bool] : List (VT Sg)) ([.same, .same] : List (VT Sg)) (fun a K => X a.1 a.2.1 (fun q0 => K (q0, ()) ((), (), ())))
noncomputable def pl_strings_HasPrefix : Nat → Option (Fx.Spec Sg) := findN ([] : List (Nat × Fx.Spec Sg))
noncomputable def EX_strings_HasPrefix (X_stringslite_HasPrefix : T_stringslite_HasPrefix) : Ev Sg := (E0.with 192 (k_stringslite_HasPrefix X_stringslite_HasPrefix))
theorem eqS_strings_HasPrefix (X_stringslite_HasPrefix : T_stringslite_HasPrefix) (s : ByteArray) (prefix_ : ByteArray) (K : Bool → Prop) : S_strings_HasPrefix X_stringslite_HasPrefix s prefix_ K = fnV ((EX_strings_HasPrefix X_stringslite_HasPrefix).pl pl_strings_HasPrefix) 4 170 ([.v, .v] : List (PK Sg)) ([.v] : List (PK Sg)) ([.str, .str] : List (VT Sg)) ([.bool] : List (VT Sg)) ([.same, .same] : List (VT Sg)) (s, prefix_, ()) (fun r _ => K r.1) := by kernel_rfl
set_option maxRecDepth 100000 in
theorem n_strings_HasPrefix : Meets Go.Proofs.Tryz.prog D 170 (k_strings_HasPrefix P_strings_HasPrefix) := meets3 (E := EX_strings_HasPrefix P_stringslite_HasPrefix) (with3 h_E0 ent_stringslite_HasPrefix n_stringslite_HasPrefix) fun a K => eqS_strings_HasPrefix P_stringslite_HasPrefix a.1 a.2.1 (fun q0 => K (q0, ()) ((), (), ()))
theorem ent_stringslite_HasSuffix : Ent Go.Proofs.Tryz.prog 193 := ent_at (by kernel_rfl) (by kernel_rfl) (by kernel_rfl)
noncomputable def k_stringslite_HasSuffix (X : T_stringslite_HasSuffix) : Con Sg := conV ([.v, .v] : List (PK Sg)) ([.str, .str] : List (VT Sg)) ([.bool] : List (VT Sg)) ([.same, .same] : List (VT Sg)) (fun a K => X a.1 a.2.1 (fun q0 => K (q0, ()) ((), (), ())))
noncomputable def pl_stringslite_HasSuffix : Nat → Option (Fx.Spec Sg) := findN ([] : List (Nat × Fx.Spec Sg))
noncomputable def EX_stringslite_HasSuffix : Ev Sg := E0
theorem eqS_stringslite_HasSuffix (s : ByteArray) (suffix : ByteArray) (K : Bool → Prop) : P_stringslite_HasSuffix s suffix K = fnV ((EX_stringslite_HasSuffix).pl pl_stringslite_HasSuffix) 4 193 ([.v, .v] : List (PK Sg)) ([.v] : List (PK Sg)) ([.str, .str] : List (VT Sg)) ([.bool] : List (VT Sg)) ([.same, .same] : List (VT Sg)) (s, suffix, ()) (fun r _ => K r.1) := by kernel_rfl
set_option maxRecDepth 100000 in
theorem n_stringslite_HasSuffix : Meets Go.Proofs.Tryz.prog D 193 (k_stringslite_HasSuffix P_stringslite_HasSuffix) := meets3 (E := EX_stringslite_HasSuffix) h_E0 fun a K => eqS_stringslite_HasSuffix a.1 a.2.1 (fun q0 => K (q0, ()) ((), (), ()))
theorem ent_strings_HasSuffix : Ent Go.Proofs.Tryz.prog 171 := ent_at (by kernel_rfl) (by kernel_rfl) (by kernel_rfl)
noncomputable def k_strings_HasSuffix (X : T_strings_HasSuffix) : Con Sg := conV ([.v, .v] : List (PK Sg)) ([.str, .str] : List (VT Sg)) ([.bool] : List (VT Sg)) ([.same, .same] : List (VT Sg)) (fun a K => X a.1 a.2.1 (fun q0 => K (q0, ()) ((), (), ())))
noncomputable def pl_strings_HasSuffix : Nat → Option (Fx.Spec Sg) := findN ([] : List (Nat × Fx.Spec Sg))
noncomputable def EX_strings_HasSuffix (X_stringslite_HasSuffix : T_stringslite_HasSuffix) : Ev Sg := (E0.with 193 (k_stringslite_HasSuffix X_stringslite_HasSuffix))
theorem eqS_strings_HasSuffix (X_stringslite_HasSuffix : T_stringslite_HasSuffix) (s : ByteArray) (suffix : ByteArray) (K : Bool → Prop) : S_strings_HasSuffix X_stringslite_HasSuffix s suffix K = fnV ((EX_strings_HasSuffix X_stringslite_HasSuffix).pl pl_strings_HasSuffix) 4 171 ([.v, .v] : List (PK Sg)) ([.v] : List (PK Sg)) ([.str, .str] : List (VT Sg)) ([.bool] : List (VT Sg)) ([.same, .same] : List (VT Sg)) (s, suffix, ()) (fun r _ => K r.1) := by kernel_rfl
set_option maxRecDepth 100000 in
theorem n_strings_HasSuffix : Meets Go.Proofs.Tryz.prog D 171 (k_strings_HasSuffix P_strings_HasSuffix) := meets3 (E := EX_strings_HasSuffix P_stringslite_HasSuffix) (with3 h_E0 ent_stringslite_HasSuffix n_stringslite_HasSuffix) fun a K => eqS_strings_HasSuffix P_stringslite_HasSuffix a.1 a.2.1 (fun q0 => K (q0, ()) ((), (), ()))
theorem ent_strings_Contains : Ent Go.Proofs.Tryz.prog 172 := ent_at (by kernel_rfl) (by kernel_rfl) (by kernel_rfl)
noncomputable def k_strings_Contains (X : T_strings_Contains) : Con Sg := conV ([.v, .v] : List (PK Sg)) ([.str, .str] : List (VT Sg)) ([.bool] : List (VT Sg)) ([.same, .same] : List (VT Sg)) (fun a K => X a.1 a.2.1 (fun q0 => K (q0, ()) ((), (), ())))
theorem n_strings_Contains : Meets Go.Proofs.Tryz.prog D 172 (k_strings_Contains P_strings_Contains) := h_strings_Contains
theorem ent_value_shape : Ent Go.Proofs.Tryz.prog 218 := ent_at (by kernel_rfl) (by kernel_rfl) (by kernel_rfl)
noncomputable def k_value_shape (X : T_value_shape) : Con Sg := conV ([.el C.val] : List (PK Sg)) ([.el C.val] : List (VT Sg)) ([.bool] : List (VT Sg)) ([.same] : List (VT Sg)) (fun a K => X a.1 (fun q0 => K (q0, ()) ((), ())))
noncomputable def pl_value_shape : Nat → Option (Fx.Spec Sg) := findN ([(8, ⟨[0, 1, 2, 3, 4], [0], [], [(.slot 5, .bool)]⟩), (14, ⟨[0, 1, 2, 3, 4, 5], [0], [], [(.slot 17, .bool)]⟩)] : List (Nat × Fx.Spec Sg))
noncomputable def EX_value_shape : Ev Sg := E0
theorem eqS_value_shape (v : Val) (K : Bool → Prop) : P_value_shape v K = fnV ((EX_value_shape).pl pl_value_shape) 4 218 ([.el C.val] : List (PK Sg)) ([.v] : List (PK Sg)) ([.el C.val] : List (VT Sg)) ([.bool] : List (VT Sg)) ([.same] : List (VT Sg)) (v, ()) (fun r _ => K r.1) := by kernel_rfl
set_option maxRecDepth 100000 in
theorem n_value_shape : Meets Go.Proofs.Tryz.prog D 218 (k_value_shape P_value_shape) := meets3 (E := EX_value_shape) h_E0 fun a K => eqS_value_shape a.1 (fun q0 => K (q0, ()) ((), ()))
theorem ent_text_Valid : Ent Go.Proofs.Tryz.prog 219 := ent_at (by kernel_rfl) (by kernel_rfl) (by kernel_rfl)
noncomputable def k_text_Valid (X : T_text_Valid) : Con Sg := conV ([.v] : List (PK Sg)) ([.str] : List (VT Sg)) ([.bool] : List (VT Sg)) ([.same] : List (VT Sg)) (fun a K => X a.1 (fun q0 => K (q0, ()) ((), ())))
noncomputable def pl_text_Valid : Nat → Option (Fx.Spec Sg) := findN ([(9, ⟨[0, 5, 6, 7, 8, 9, 10, 11, 12, 13, 14], [], [], [(.obj 0, .siter)]⟩)] : List (Nat × Fx.Spec Sg))
noncomputable def EX_text_Valid (X_utf8_ValidString : T_utf8_ValidString) : Ev Sg := (E0.with 200 (k_utf8_ValidString X_utf8_ValidString))
theorem eqS_text_Valid (X_utf8_ValidString : T_utf8_ValidString) (s : ByteArray) (K : Bool → Prop) : S_text_Valid X_utf8_ValidString s K = fnV ((EX_text_Valid X_utf8_ValidString).pl pl_text_Valid) 4 219 ([.v] : List (PK Sg)) ([.v] : List (PK Sg)) ([.str] : List (VT Sg)) ([.bool] : List (VT Sg)) ([.same] : List (VT Sg)) (s, ()) (fun r _ => K r.1) := by kernel_rfl
set_option maxRecDepth 100000 in
theorem n_text_Valid : Meets Go.Proofs.Tryz.prog D 219 (k_text_Valid P_text_Valid) := meets3 (E := EX_text_Valid P_utf8_ValidString) (with3 h_E0 ent_utf8_ValidString n_utf8_ValidString) fun a K => eqS_text_Valid P_utf8_ValidString a.1 (fun q0 => K (q0, ()) ((), ()))
end Go.En
end
section
open Go Go.RowKit Go.Fl Go.Fl.Lk Go.Fx
namespace Go.En
theorem ent_strings_Split : Ent Go.Proofs.Tryz.prog 221 := ent_at (by kernel_rfl) (by kernel_rfl) (by kernel_rfl)
noncomputable def k_strings_Split (X : T_strings_Split) : Con Sg := conV ([.v, .v] : List (PK Sg)) ([.str, .str] : List (VT Sg)) ([.vec 9 C.str] : List (VT Sg)) ([.same, .same] : List (VT Sg)) (fun a K => X a.1 a.2.1 (fun q0 => K (q0, ()) ((), (), ())))
theorem n_strings_Split : Meets Go.Proofs.Tryz.prog D 221 (k_strings_Split P_strings_Split) := h_strings_Split
theorem ent_stringslite_CutPrefix : Ent Go.Proofs.Tryz.prog 237 := ent_at (by kernel_rfl) (by kernel_rfl) (by kernel_rfl)
noncomputable def k_stringslite_CutPrefix (X : T_stringslite_CutPrefix) : Con Sg := conV ([.v, .v] : List (PK Sg)) ([.str, .str] : List (VT Sg)) ([.str, .bool] : List (VT Sg)) ([.same, .same] : List (VT Sg)) (fun a K => X a.1 a.2.1 (fun q0 q1 => K (q0, q1, ()) ((), (), ())))
noncomputable def pl_stringslite_CutPrefix : Nat → Option (Fx.Spec Sg) := findN ([] : List (Nat × Fx.Spec Sg))
noncomputable def EX_stringslite_CutPrefix (X_stringslite_HasPrefix : T_stringslite_HasPrefix) : Ev Sg := (E0.with 192 (k_stringslite_HasPrefix X_stringslite_HasPrefix))
theorem eqS_stringslite_CutPrefix (X_stringslite_HasPrefix : T_stringslite_HasPrefix) (s : ByteArray) (prefix_ : ByteArray) (K : ByteArray → Bool → Prop) : S_stringslite_CutPrefix X_stringslite_HasPrefix s prefix_ K = fnV ((EX_stringslite_CutPrefix X_stringslite_HasPrefix).pl pl_stringslite_CutPrefix) 4 237 ([.v, .v] : List (PK Sg)) ([.v, .v] : List (PK Sg)) ([.str, .str] : List (VT Sg)) ([.str, .bool] : List (VT Sg)) ([.same, .same] : List (VT Sg)) (s, prefix_, ()) (fun r _ => K r.1 r.2.1) := by kernel_rfl
set_option maxRecDepth 100000 in
theorem n_stringslite_CutPrefix : Meets Go.Proofs.Tryz.prog D 237 (k_stringslite_CutPrefix P_stringslite_CutPrefix) := meets3 (E := EX_stringslite_CutPrefix P_stringslite_HasPrefix) (with3 h_E0 ent_stringslite_HasPrefix n_stringslite_HasPrefix) fun a K => eqS_stringslite_CutPrefix P_stringslite_HasPrefix a.1 a.2.1 (fun q0 q1 => K (q0, q1, ()) ((), (), ()))
theorem ent_strings_CutPrefix : Ent Go.Proofs.Tryz.prog 230 := ent_at (by kernel_rfl) (by kernel_rfl) (by kernel_rfl)
noncomputable def k_strings_CutPrefix (X : T_strings_CutPrefix) : Con Sg := conV ([.v, .v] : List (PK Sg)) ([.str, .str] : List (VT Sg)) ([.str, .bool] : List (VT Sg)) ([.same, .same] : List (VT Sg)) (fun a K => X a.1 a.2.1 (fun q0 q1 => K (q0, q1, ()) ((), (), ())))
noncomputable def pl_strings_CutPrefix : Nat → Option (Fx.Spec Sg) := findN ([] : List (Nat × Fx.Spec Sg))
noncomputable def EX_strings_CutPrefix (X_stringslite_CutPrefix : T_stringslite_CutPrefix) : Ev Sg := (E0.with 237 (k_stringslite_CutPrefix X_stringslite_CutPrefix))
theorem eqS_strings_CutPrefix (X_stringslite_CutPrefix : T_stringslite_CutPrefix) (s : ByteArray) (prefix_ : ByteArray) (K : ByteArray → Bool → Prop) : S_strings_CutPrefix X_stringslite_CutPrefix s prefix_ K = fnV ((EX_strings_CutPrefix X_stringslite_CutPrefix).pl pl_strings_CutPrefix) 4 230 ([.v, .v] : List (PK Sg)) ([.v, .v] : List (PK Sg)) ([.str, .str] : List (VT Sg)) ([.str, .bool] : List (VT Sg)) ([.same, .same] : List (VT Sg)) (s, prefix_, ()) (fun r _ => K r.1 r.2.1) := by kernel_rfl
set_option maxRecDepth 100000 in
theorem n_strings_CutPrefix : Meets Go.Proofs.Tryz.prog D 230 (k_strings_CutPrefix P_strings_CutPrefix) := meets3 (E := EX_strings_CutPrefix P_stringslite_CutPrefix) (with3 h_E0 ent_stringslite_CutPrefix n_stringslite_CutPrefix) fun a K => eqS_strings_CutPrefix P_stringslite_CutPrefix a.1 a.2.1 (fun q0 q1 => K (q0, q1, ()) ((), (), ()))
theorem ent_strconv_Atoi : Ent Go.Proofs.Tryz.prog 231 := ent_at (by kernel_rfl) (by kernel_rfl) (by kernel_rfl)
noncomputable def k_strconv_Atoi (X : T_strconv_Atoi) : Con Sg := conV ([.v] : List (PK Sg)) ([.str] : List (VT Sg)) ([.int .i64, .ifc] : List (VT Sg)) ([.same] : List (VT Sg)) (fun a K => X a.1 (fun q0 q1 => K (q0, q1, ()) ((), ())))
theorem n_strconv_Atoi : Meets Go.Proofs.Tryz.prog D 231 (k_strconv_Atoi P_strconv_Atoi) := h_strconv_Atoi
theorem ent_text_ParseNumber : Ent Go.Proofs.Tryz.prog 222 := ent_at (by kernel_rfl) (by kernel_rfl) (by kernel_rfl)
noncomputable def k_text_ParseNumber (X : T_text_ParseNumber) : Con Sg := conV ([.v] : List (PK Sg)) ([.str] : List (VT Sg)) ([.int .i64, .int .i64] : List (VT Sg)) ([.same] : List (VT Sg)) (fun a K => X a.1 (fun q0 q1 => K (q0, q1, ()) ((), ())))
noncomputable def pl_text_ParseNumber : Nat → Option (Fx.Spec Sg) := findN ([(11, ⟨[0, 4, 5, 10, 11, 12, 13, 14, 15, 16, 17, 18, 19, 20, 21, 22, 23, 24, 25, 26, 27, 28, 29, 30, 31], [], [], [(.obj 0, .siter)]⟩)] : List (Nat × Fx.Spec Sg))
noncomputable def EX_text_ParseNumber (X_strings_CutPrefix : T_strings_CutPrefix) (X_strconv_Atoi : T_strconv_Atoi) : Ev Sg := ((E0.with 230 (k_strings_CutPrefix X_strings_CutPrefix)).with 231 (k_strconv_Atoi X_strconv_Atoi))
theorem eqS_text_ParseNumber (X_strings_CutPrefix : T_strings_CutPrefix) (X_strconv_Atoi : T_strconv_Atoi) (s : ByteArray) (K : Int → Int → Prop) : S_text_ParseNumber X_strings_CutPrefix X_strconv_Atoi s K = fnV ((EX_text_ParseNumber X_strings_CutPrefix X_strconv_Atoi).pl pl_text_ParseNumber) 4 222 ([.v] : List (PK Sg)) ([.v, .v] : List (PK Sg)) ([.str] : List (VT Sg)) ([.int .i64, .int .i64] : List (VT Sg)) ([.same] : List (VT Sg)) (s, ()) (fun r _ => K r.1 r.2.1) := by kernel_rfl
set_option maxRecDepth 100000 in
theorem n_text_ParseNumber : Meets Go.Proofs.Tryz.prog D 222 (k_text_ParseNumber P_text_ParseNumber) := meets3 (E := EX_text_ParseNumber P_strings_CutPrefix P_strconv_Atoi) (with3 (with3 h_E0 ent_strings_CutPrefix n_strings_CutPrefix) ent_strconv_Atoi n_strconv_Atoi) fun a K => eqS_text_ParseNumber P_strings_CutPrefix P_strconv_Atoi a.1 (fun q0 q1 => K (q0, q1, ()) ((), ()))
theorem ent_value_parts : Ent Go.Proofs.Tryz.prog 198 := ent_at (by kernel_rfl) (by kernel_rfl) (by kernel_rfl)
noncomputable def k_value_parts (X : T_value_parts) : Con Sg := conV ([.v] : List (PK Sg)) ([.str] : List (VT Sg)) ([.el C.a3, .bool] : List (VT Sg)) ([.same] : List (VT Sg)) (fun a K => X a.1 (fun q0 q1 => K (q0, q1, ()) ((), ())))
noncomputable def pl_value_parts : Nat → Option (Fx.Spec Sg) := findN ([(13, ⟨[0, 2, 4, 5, 10, 11, 12, 13, 14, 16, 17], [2], [(1, (214, 3)), (0, (214, 3))], [(.slot 18, .int IntKind.i64), (.cell 1 0, .int IntKind.i64), (.cell 1 1, .int IntKind.i64), (.cell 1 2, .int IntKind.i64), (.cell 0 0, .int IntKind.i64), (.cell 0 1, .int IntKind.i64), (.cell 0 2, .int IntKind.i64)]⟩)] : List (Nat × Fx.Spec Sg))
noncomputable def EX_value_parts (X_strings_Split : T_strings_Split) (X_text_ParseNumber : T_text_ParseNumber) : Ev Sg := ((E0.with 221 (k_strings_Split X_strings_Split)).with 222 (k_text_ParseNumber X_text_ParseNumber))
theorem eqS_value_parts (X_strings_Split : T_strings_Split) (X_text_ParseNumber : T_text_ParseNumber) (s : ByteArray) (K : A3 → Bool → Prop) : S_value_parts X_strings_Split X_text_ParseNumber s K = fnV ((EX_value_parts X_strings_Split X_text_ParseNumber).pl pl_value_parts) 4 198 ([.v] : List (PK Sg)) ([.el C.a3, .v] : List (PK Sg)) ([.str] : List (VT Sg)) ([.el C.a3, .bool] : List (VT Sg)) ([.same] : List (VT Sg)) (s, ()) (fun r _ => K r.1 r.2.1) := by kernel_rfl
set_option maxRecDepth 100000 in
theorem n_value_parts : Meets Go.Proofs.Tryz.prog D 198 (k_value_parts P_value_parts) := meets3 (E := EX_value_parts P_strings_Split P_text_ParseNumber) (with3 (with3 h_E0 ent_strings_Split n_strings_Split) ent_text_ParseNumber n_text_ParseNumber) fun a K => eqS_value_parts P_strings_Split P_text_ParseNumber a.1 (fun q0 q1 => K (q0, q1, ()) ((), ()))
theorem ent_value_Check : Ent Go.Proofs.Tryz.prog 195 := ent_at (by kernel_rfl) (by kernel_rfl) (by kernel_rfl)
noncomputable def k_value_Check (X : T_value_Check) : Con Sg := conV ([.el C.val] : List (PK Sg)) ([.el C.val] : List (VT Sg)) ([.int .i64] : List (VT Sg)) ([.same] : List (VT Sg)) (fun a K => X a.1 (fun q0 => K (q0, ()) ((), ())))
noncomputable def pl_value_Check : Nat → Option (Fx.Spec Sg) := findN ([(47, ⟨[0, 1, 8, 9, 10, 11, 12, 13, 14, 15, 16, 17, 18, 19, 20, 21, 22, 31, 32, 41, 42, 47, 48, 57, 58, 59, 60, 61, 62, 63, 64, 65], [0], [], [(.slot 66, .int IntKind.i64)]⟩), (59, ⟨[0, 1, 8, 9, 10, 11, 12, 13, 14, 15, 16, 17, 18, 19, 20, 21, 22, 31, 32, 41, 42, 47, 48, 57, 58, 59, 60, 61, 62, 63, 64, 65, 66, 67, 74, 75, 76], [0], [], [(.slot 77, .int IntKind.i64)]⟩)] : List (Nat × Fx.Spec Sg))
noncomputable def EX_value_Check (X_value_shape : T_value_shape) (X_text_Valid : T_text_Valid) (X_value_parts : T_value_parts) : Ev Sg := (((E0.with 218 (k_value_shape X_value_shape)).with 219 (k_text_Valid X_text_Valid)).with 198 (k_value_parts X_value_parts))
theorem eqS_value_Check (X_value_shape : T_value_shape) (X_text_Valid : T_text_Valid) (X_value_parts : T_value_parts) (v : Val) (K : Int → Prop) : S_value_Check X_value_shape X_text_Valid X_value_parts v K = fnV ((EX_value_Check X_value_shape X_text_Valid X_value_parts).pl pl_value_Check) 4 195 ([.el C.val] : List (PK Sg)) ([.v] : List (PK Sg)) ([.el C.val] : List (VT Sg)) ([.int .i64] : List (VT Sg)) ([.same] : List (VT Sg)) (v, ()) (fun r _ => K r.1) := by kernel_rfl
set_option maxRecDepth 100000 in
theorem n_value_Check : Meets Go.Proofs.Tryz.prog D 195 (k_value_Check P_value_Check) := meets3 (E := EX_value_Check P_value_shape P_text_Valid P_value_parts) (with3 (with3 (with3 h_E0 ent_value_shape n_value_shape) ent_text_Valid n_text_Valid) ent_value_parts n_value_parts) fun a K => eqS_value_Check P_value_shape P_text_Valid P_value_parts a.1 (fun q0 => K (q0, ()) ((), ()))
theorem ent_value_Compare : Ent Go.Proofs.Tryz.prog 173 := ent_at (by kernel_rfl) (by kernel_rfl) (by kernel_rfl)
noncomputable def k_value_Compare (X : T_value_Compare) : Con Sg := conV ([.el C.val, .el C.val] : List (PK Sg)) ([.el C.val, .el C.val] : List (VT Sg)) ([.int .i64, .int .i64] : List (VT Sg)) ([.same, .same] : List (VT Sg)) (fun a K => X a.1 a.2.1 (fun q0 q1 => K (q0, q1, ()) ((), (), ())))
noncomputable def pl_value_Compare : Nat → Option (Fx.Spec Sg) := findN ([(200000005, ⟨[0, 1, 9, 10], [], [], [(.slot 11, .int IntKind.i64)]⟩)] : List (Nat × Fx.Spec Sg))
noncomputable def EX_value_Compare (X_value_Check : T_value_Check) (X_value_parts : T_value_parts) : Ev Sg := ((E0.with 195 (k_value_Check X_value_Check)).with 198 (k_value_parts X_value_parts))
theorem eqS_value_Compare (X_value_Check : T_value_Check) (X_value_parts : T_value_parts) (a : Val) (b : Val) (K : Int → Int → Prop) : S_value_Compare X_value_Check X_value_parts a b K = fnV ((EX_value_Compare X_value_Check X_value_parts).pl pl_value_Compare) 4 173 ([.el C.val, .el C.val] : List (PK Sg)) ([.v, .v] : List (PK Sg)) ([.el C.val, .el C.val] : List (VT Sg)) ([.int .i64, .int .i64] : List (VT Sg)) ([.same, .same] : List (VT Sg)) (a, b, ()) (fun r _ => K r.1 r.2.1) := by kernel_rfl
set_option maxRecDepth 100000 in
theorem n_value_Compare : Meets Go.Proofs.Tryz.prog D 173 (k_value_Compare P_value_Compare) := meets3 (E := EX_value_Compare P_value_Check P_value_parts) (with3 (with3 h_E0 ent_value_Check n_value_Check) ent_value_parts n_value_parts) fun a K => eqS_value_Compare P_value_Check P_value_parts a.1 a.2.1 (fun q0 q1 => K (q0, q1, ()) ((), (), ()))
theorem ent_clause_Test : Ent Go.Proofs.Tryz.prog 125 := ent_at (by kernel_rfl) (by kernel_rfl) (by kernel_rfl)
noncomputable def k_clause_Test (X : T_clause_Test) : Con Sg := conV ([.el C.subj, .el C.ex] : List (PK Sg)) ([.el C.subj, .el C.ex] : List (VT Sg)) ([.bool] : List (VT Sg)) ([.same, .same] : List (VT Sg)) (fun a K => X a.1 a.2.1 (fun q0 => K (q0, ()) ((), (), ())))
noncomputable def pl_clause_Test : Nat → Option (Fx.Spec Sg) := findN ([(192000005, ⟨[0, 1, 6, 7], [2], [], [(.slot 8, .int IntKind.i64)]⟩), (80000005, ⟨[0, 1, 6, 7], [], [], [(.slot 8, .int IntKind.i64)]⟩)] : List (Nat × Fx.Spec Sg))
noncomputable def EX_clause_Test (X_subject_Lookup : T_subject_Lookup) (X_clause_test : T_clause_test) (X_value_Equal : T_value_Equal) (X_strings_HasPrefix : T_strings_HasPrefix) (X_strings_HasSuffix : T_strings_HasSuffix) (X_strings_Contains : T_strings_Contains) (X_value_Compare : T_value_Compare) : Ev Sg := (((((((E0.with 166 (k_subject_Lookup X_subject_Lookup)).with 86 (k_clause_test X_clause_test)).with 169 (k_value_Equal X_value_Equal)).with 170 (k_strings_HasPrefix X_strings_HasPrefix)).with 171 (k_strings_HasSuffix X_strings_HasSuffix)).with 172 (k_strings_Contains X_strings_Contains)).with 173 (k_value_Compare X_value_Compare))
theorem eqS_clause_Test (X_subject_Lookup : T_subject_Lookup) (X_clause_test : T_clause_test) (X_value_Equal : T_value_Equal) (X_strings_HasPrefix : T_strings_HasPrefix) (X_strings_HasSuffix : T_strings_HasSuffix) (X_strings_Contains : T_strings_Contains) (X_value_Compare : T_value_Compare) (s : Subj) (e : Ex) (K : Bool → Prop) : S_clause_Test X_subject_Lookup X_clause_test X_value_Equal X_strings_HasPrefix X_strings_HasSuffix X_strings_Contains X_value_Compare s e K = fnV ((EX_clause_Test X_subject_Lookup X_clause_test X_value_Equal X_strings_HasPrefix X_strings_HasSuffix X_strings_Contains X_value_Compare).pl pl_clause_Test) 4 125 ([.el C.subj, .el C.ex] : List (PK Sg)) ([.v] : List (PK Sg)) ([.el C.subj, .el C.ex] : List (VT Sg)) ([.bool] : List (VT Sg)) ([.same, .same] : List (VT Sg)) (s, e, ()) (fun r _ => K r.1) := by kernel_rfl
set_option maxRecDepth 100000 in
theorem n_clause_Test : Meets Go.Proofs.Tryz.prog D 125 (k_clause_Test P_clause_Test) := meets3 (E := EX_clause_Test P_subject_Lookup P_clause_test P_value_Equal P_strings_HasPrefix P_strings_HasSuffix P_strings_Contains P_value_Compare) (with3 (with3 (with3 (with3 (with3 (with3 (with3 h_E0 ent_subject_Lookup n_subject_Lookup) ent_clause_test n_clause_test) ent_value_Equal n_value_Equal) ent_strings_HasPrefix n_strings_HasPrefix) ent_strings_HasSuffix n_strings_HasSuffix) ent_strings_Contains n_strings_Contains) ent_value_Compare n_value_Compare) fun a K => eqS_clause_Test P_subject_Lookup P_clause_test P_value_Equal P_strings_HasPrefix P_strings_HasSuffix P_strings_Contains P_value_Compare a.1 a.2.1 (fun q0 => K (q0, ()) ((), (), ()))
theorem ent_clause_Eval : Ent Go.Proofs.Tryz.prog 77 := ent_at (by kernel_rfl) (by kernel_rfl) (by kernel_rfl)
noncomputable def k_clause_Eval (X : T_clause_Eval) : Con Sg := conV ([.el C.subj, .sl C.str, .el C.ex] : List (PK Sg)) ([.el C.subj, .sl C.str, .el C.ex] : List (VT Sg)) ([.bool] : List (VT Sg)) ([.same, .same, .same] : List (VT Sg)) (fun a K => X a.1 a.2.1 a.2.2.1 (fun q0 => K (q0, ()) ((), (), (), ())))
noncomputable def pl_clause_Eval : Nat → Option (Fx.Spec Sg) := findN ([(130000005, ⟨[0, 1, 6, 7], [1, 0], [], [(.slot 8, .int IntKind.i64)]⟩), (80000005, ⟨[0, 1, 6, 7], [], [], [(.slot 8, .int IntKind.i64)]⟩)] : List (Nat × Fx.Spec Sg))
noncomputable def EX_clause_Eval (X_clause_Test : T_clause_Test) : Ev Sg := (E0.with 125 (k_clause_Test X_clause_Test))
theorem eqS_clause_Eval (X_clause_Test : T_clause_Test) (X : T_clause_Eval) (s : Subj) (in_ : List (ByteArray)) (e : Ex) (K : Bool → Prop) : S_clause_Eval X_clause_Test X s in_ e K = fnV (((EX_clause_Eval X_clause_Test).with 77 (k_clause_Eval X)).pl pl_clause_Eval) 4 77 ([.el C.subj, .sl C.str, .el C.ex] : List (PK Sg)) ([.v] : List (PK Sg)) ([.el C.subj, .sl C.str, .el C.ex] : List (VT Sg)) ([.bool] : List (VT Sg)) ([.same, .same, .same] : List (VT Sg)) (s, in_, e, ()) (fun r _ => K r.1) := by kernel_rfl
set_option maxRecDepth 100000 in
theorem n_clause_Eval : Meets Go.Proofs.Tryz.prog D 77 (k_clause_Eval P_clause_Eval) := by
  show Meets _ _ _ (conV ([.el C.subj, .sl C.str, .el C.ex] : List (PK Sg)) ([.el C.subj, .sl C.str, .el C.ex] : List (VT Sg)) ([.bool] : List (VT Sg)) ([.same, .same, .same] : List (VT Sg)) fun a K => P_clause_Eval a.1 a.2.1 a.2.2.1 (fun q0 => K (q0, ()) ((), (), (), ())))
  refine meetsR (E := EX_clause_Eval P_clause_Test) (fuel := 4) (rk := [.v]) (p := pl_clause_Eval) (with3 h_E0 ent_clause_Test n_clause_Test) ent_clause_Eval fun a K h X hX => ?_
  exact h (fun s in_ e K => X (s, in_, e, ()) fun r _ => K r.1) (fun s in_ e K hs => hX (s, in_, e, ()) (fun r _ => K r.1) (Eq.mp (eqS_clause_Eval P_clause_Test (fun s in_ e K => X (s, in_, e, ()) fun r _ => K r.1) s in_ e K) hs))
theorem ent_segment_contains : Ent Go.Proofs.Tryz.prog 47 := ent_at (by kernel_rfl) (by kernel_rfl) (by kernel_rfl)
noncomputable def k_segment_contains (X : T_segment_contains) : Con Sg := conV ([.el C.seg, .el C.subj, .sl C.str] : List (PK Sg)) ([.el C.seg, .el C.subj, .sl C.str] : List (VT Sg)) ([.bool] : List (VT Sg)) ([.same, .same, .same] : List (VT Sg)) (fun a K => X a.1 a.2.1 a.2.2.1 (fun q0 => K (q0, ()) ((), (), (), ())))
noncomputable def pl_segment_contains : Nat → Option (Fx.Spec Sg) := findN ([(80000005, ⟨[0, 1, 6, 7], [], [], [(.slot 8, .int IntKind.i64)]⟩)] : List (Nat × Fx.Spec Sg))
noncomputable def EX_segment_contains (X_subject_Find : T_subject_Find) (X_clause_Eval : T_clause_Eval) : Ev Sg := ((E0.with 76 (k_subject_Find X_subject_Find)).with 77 (k_clause_Eval X_clause_Eval))
theorem eqS_segment_contains (X_subject_Find : T_subject_Find) (X_clause_Eval : T_clause_Eval) (g : Seg) (s : Subj) (in_ : List (ByteArray)) (K : Bool → Prop) : S_segment_contains X_subject_Find X_clause_Eval g s in_ K = fnV ((EX_segment_contains X_subject_Find X_clause_Eval).pl pl_segment_contains) 4 47 ([.el C.seg, .el C.subj, .sl C.str] : List (PK Sg)) ([.v] : List (PK Sg)) ([.el C.seg, .el C.subj, .sl C.str] : List (VT Sg)) ([.bool] : List (VT Sg)) ([.same, .same, .same] : List (VT Sg)) (g, s, in_, ()) (fun r _ => K r.1) := by kernel_rfl
set_option maxRecDepth 100000 in
theorem n_segment_contains : Meets Go.Proofs.Tryz.prog D 47 (k_segment_contains P_segment_contains) := meets3 (E := EX_segment_contains P_subject_Find P_clause_Eval) (with3 (with3 h_E0 ent_subject_Find n_subject_Find) ent_clause_Eval n_clause_Eval) fun a K => eqS_segment_contains P_subject_Find P_clause_Eval a.1 a.2.1 a.2.2.1 (fun q0 => K (q0, ()) ((), (), (), ()))
theorem ent_segment_Members : Ent Go.Proofs.Tryz.prog 19 := ent_at (by kernel_rfl) (by kernel_rfl) (by kernel_rfl)
noncomputable def k_segment_Members (X : T_segment_Members) : Con Sg := conV ([.sl C.seg, .el C.subj] : List (PK Sg)) ([.sl C.seg, .el C.subj] : List (VT Sg)) ([.vec 9 C.str] : List (VT Sg)) ([.same, .same] : List (VT Sg)) (fun a K => X a.1 a.2.1 (fun q0 => K (q0, ()) ((), (), ())))
noncomputable def pl_segment_Members : Nat → Option (Fx.Spec Sg) := findN ([(13, ⟨[0, 1, 3, 4, 5, 6, 7, 13, 14, 15, 16, 17, 18, 19, 20, 21, 22], [1, 0], [], [(.slot 23, .int IntKind.i64), (.obj 2, .map C.str C.seg)]⟩), (25, ⟨[0, 1, 3, 4, 5, 6, 7, 13, 14, 15, 16, 17, 18, 19, 20, 21, 22, 23, 24, 32, 33], [2, 1, 0], [], [(.slot 10, .own 9 C.str), (.slot 34, .int IntKind.i64)]⟩)] : List (Nat × Fx.Spec Sg))
noncomputable def EX_segment_Members (X_segment_Order : T_segment_Order) (X_segment_contains : T_segment_contains) (X_slices_Sort_string_string_ : T_slices_Sort_string_string_) : Ev Sg := (((E0.with 15 (k_segment_Order X_segment_Order)).with 47 (k_segment_contains X_segment_contains)).with 30 (k_slices_Sort_string_string_ X_slices_Sort_string_string_))
theorem eqS_segment_Members (X_segment_Order : T_segment_Order) (X_segment_contains : T_segment_contains) (X_slices_Sort_string_string_ : T_slices_Sort_string_string_) (l : List (Seg)) (s : Subj) (K : List (ByteArray) → Prop) : S_segment_Members X_segment_Order X_segment_contains X_slices_Sort_string_string_ l s K = fnV ((EX_segment_Members X_segment_Order X_segment_contains X_slices_Sort_string_string_).pl pl_segment_Members) 4 19 ([.sl C.seg, .el C.subj] : List (PK Sg)) ([.own 9 C.str] : List (PK Sg)) ([.sl C.seg, .el C.subj] : List (VT Sg)) ([.vec 9 C.str] : List (VT Sg)) ([.same, .same] : List (VT Sg)) (l, s, ()) (fun r _ => K r.1) := by kernel_rfl
set_option maxRecDepth 100000 in
theorem n_segment_Members : Meets Go.Proofs.Tryz.prog D 19 (k_segment_Members P_segment_Members) := meets3 (E := EX_segment_Members P_segment_Order P_segment_contains P_slices_Sort_string_string_) (with3 (with3 (with3 h_E0 ent_segment_Order n_segment_Order) ent_segment_contains n_segment_contains) ent_slices_Sort_string_string_ n_slices_Sort_string_string_) fun a K => eqS_segment_Members P_segment_Order P_segment_contains P_slices_Sort_string_string_ a.1 a.2.1 (fun q0 => K (q0, ()) ((), (), ()))
end Go.En
end
section
open Go Go.RowKit Go.Fl Go.Fl.Lk Go.Fx
namespace Go.En
theorem ent_segment_Contains : Ent Go.Proofs.Tryz.prog 21 := ent_at (by kernel_rfl) (by kernel_rfl) (by kernel_rfl)
noncomputable def k_segment_Contains (X : T_segment_Contains) : Con Sg := conV ([.sl C.seg, .el C.subj, .v] : List (PK Sg)) ([.sl C.seg, .el C.subj, .str] : List (VT Sg)) ([.bool] : List (VT Sg)) ([.same, .same, .same] : List (VT Sg)) (fun a K => X a.1 a.2.1 a.2.2.1 (fun q0 => K (q0, ()) ((), (), (), ())))
noncomputable def pl_segment_Contains : Nat → Option (Fx.Spec Sg) := findN ([(80000005, ⟨[0, 1, 6, 7], [1], [], [(.slot 8, .int IntKind.i64)]⟩)] : List (Nat × Fx.Spec Sg))
noncomputable def EX_segment_Contains (X_segment_Members : T_segment_Members) : Ev Sg := (E0.with 19 (k_segment_Members X_segment_Members))
theorem eqS_segment_Contains (X_segment_Members : T_segment_Members) (l : List (Seg)) (s : Subj) (key : ByteArray) (K : Bool → Prop) : S_segment_Contains X_segment_Members l s key K = fnV ((EX_segment_Contains X_segment_Members).pl pl_segment_Contains) 4 21 ([.sl C.seg, .el C.subj, .v] : List (PK Sg)) ([.v] : List (PK Sg)) ([.sl C.seg, .el C.subj, .str] : List (VT Sg)) ([.bool] : List (VT Sg)) ([.same, .same, .same] : List (VT Sg)) (l, s, key, ()) (fun r _ => K r.1) := by kernel_rfl
set_option maxRecDepth 100000 in
theorem n_segment_Contains : Meets Go.Proofs.Tryz.prog D 21 (k_segment_Contains P_segment_Contains) := meets3 (E := EX_segment_Contains P_segment_Members) (with3 h_E0 ent_segment_Members n_segment_Members) fun a K => eqS_segment_Contains P_segment_Members a.1 a.2.1 a.2.2.1 (fun q0 => K (q0, ()) ((), (), (), ()))
theorem ent_law12_awake : Ent Go.Proofs.Tryz.prog 8 := ent_at (by kernel_rfl) (by kernel_rfl) (by kernel_rfl)
noncomputable def k_law12_awake (X : T_law12_awake) : Con Sg := conV ([] : List (PK Sg)) ([] : List (VT Sg)) ([.bool] : List (VT Sg)) ([] : List (VT Sg)) (fun _ K => X (fun q0 => K (q0, ()) ()))
noncomputable def pl_law12_awake : Nat → Option (Fx.Spec Sg) := findN ([] : List (Nat × Fx.Spec Sg))
noncomputable def EX_law12_awake (X_segment_Contains : T_segment_Contains) (X_segment_Members : T_segment_Members) : Ev Sg := ((E0.with 21 (k_segment_Contains X_segment_Contains)).with 19 (k_segment_Members X_segment_Members))
theorem eqS_law12_awake (X_segment_Contains : T_segment_Contains) (X_segment_Members : T_segment_Members)  (K : Bool → Prop) : S_law12_awake X_segment_Contains X_segment_Members  K = fnV ((EX_law12_awake X_segment_Contains X_segment_Members).pl pl_law12_awake) 4 8 ([] : List (PK Sg)) ([.v] : List (PK Sg)) ([] : List (VT Sg)) ([.bool] : List (VT Sg)) ([] : List (VT Sg)) () (fun r _ => K r.1) := by kernel_rfl
set_option maxRecDepth 100000 in
theorem n_law12_awake : Meets Go.Proofs.Tryz.prog D 8 (k_law12_awake P_law12_awake) := meets3 (E := EX_law12_awake P_segment_Contains P_segment_Members) (with3 (with3 h_E0 ent_segment_Contains n_segment_Contains) ent_segment_Members n_segment_Members) fun _ K => eqS_law12_awake P_segment_Contains P_segment_Members (fun q0 => K (q0, ()) ())
theorem ent_d_New : Ent Go.Proofs.Tryz.prog 9 := ent_at (by kernel_rfl) (by kernel_rfl) (by kernel_rfl)
noncomputable def k_d_New (X : T_d_New) : Con Sg := conV ([.sl C.u8, .v] : List (PK Sg)) ([.sl C.u8, .int .i64] : List (VT Sg)) ([.ptr 71 [.sl C.u8, .int .i64]] : List (VT Sg)) ([.same, .same] : List (VT Sg)) (fun a K => X a.1 a.2.1 (fun q0 q1 => K ((q0, q1, ()), ()) ((), (), ())))
noncomputable def pl_d_New : Nat → Option (Fx.Spec Sg) := findN ([(6, ⟨[1, 4], [], [], [(.slot 0, .sl C.u8)]⟩)] : List (Nat × Fx.Spec Sg))
noncomputable def EX_d_New : Ev Sg := E0
theorem eqS_d_New (list_ : List (Int)) (most : Int) (K : List (Int) → Int → Prop) : P_d_New list_ most K = fnV ((EX_d_New).pl pl_d_New) 4 9 ([.sl C.u8, .v] : List (PK Sg)) ([.ptr 71 [.c, .v]] : List (PK Sg)) ([.sl C.u8, .int .i64] : List (VT Sg)) ([.ptr 71 [.sl C.u8, .int .i64]] : List (VT Sg)) ([.same, .same] : List (VT Sg)) (list_, most, ()) (fun r _ => K r.1.1 r.1.2.1) := by kernel_rfl
set_option maxRecDepth 100000 in
theorem n_d_New : Meets Go.Proofs.Tryz.prog D 9 (k_d_New P_d_New) := meets3 (E := EX_d_New) h_E0 fun a K => eqS_d_New a.1 a.2.1 (fun q0 q1 => K ((q0, q1, ()), ()) ((), (), ()))
end Go.En
end
section
open Go Go.RowKit Go.Fl Go.Fl.Lk Go.Fx
namespace Go.En
theorem ent_r9_ready : Ent Go.Proofs.Tryz.prog 67 := ent_at (by kernel_rfl) (by kernel_rfl) (by kernel_rfl)
noncomputable def k_r9_ready (X : T_r9_ready) : Con Sg := conV ([.sl C.str, .sl C.edge, .v] : List (PK Sg)) ([.sl C.str, .sl C.edge, .str] : List (VT Sg)) ([.bool] : List (VT Sg)) ([.same, .same, .same] : List (VT Sg)) (fun a K => X a.1 a.2.1 a.2.2.1 (fun q0 => K (q0, ()) ((), (), (), ())))
noncomputable def pl_r9_ready : Nat → Option (Fx.Spec Sg) := findN ([(5, ⟨[0, 1, 2], [], [], [(.slot 7, .int IntKind.i64)]⟩)] : List (Nat × Fx.Spec Sg))
noncomputable def EX_r9_ready (X_r1_Has : T_r1_Has) : Ev Sg := (E0.with 22 (k_r1_Has X_r1_Has))
theorem eqS_r9_ready (X_r1_Has : T_r1_Has) (order : List (ByteArray)) (edges : List (Edg)) (node : ByteArray) (K : Bool → Prop) : S_r9_ready X_r1_Has order edges node K = fnV ((EX_r9_ready X_r1_Has).pl pl_r9_ready) 4 67 ([.sl C.str, .sl C.edge, .v] : List (PK Sg)) ([.v] : List (PK Sg)) ([.sl C.str, .sl C.edge, .str] : List (VT Sg)) ([.bool] : List (VT Sg)) ([.same, .same, .same] : List (VT Sg)) (order, edges, node, ()) (fun r _ => K r.1) := by kernel_rfl
set_option maxRecDepth 100000 in
theorem n_r9_ready : Meets Go.Proofs.Tryz.prog D 67 (k_r9_ready P_r9_ready) := meets3 (E := EX_r9_ready P_r1_Has) (with3 h_E0 ent_r1_Has n_r1_Has) fun a K => eqS_r9_ready P_r1_Has a.1 a.2.1 a.2.2.1 (fun q0 => K (q0, ()) ((), (), (), ()))
theorem ent_r9_Order : Ent Go.Proofs.Tryz.prog 34 := ent_at (by kernel_rfl) (by kernel_rfl) (by kernel_rfl)
noncomputable def k_r9_Order (X : T_r9_Order) : Con Sg := conV ([.sl C.str, .sl C.edge] : List (PK Sg)) ([.sl C.str, .sl C.edge] : List (VT Sg)) ([.vec 9 C.str, .int .i64] : List (VT Sg)) ([.same, .same] : List (VT Sg)) (fun a K => X a.1 a.2.1 (fun q0 q1 => K (q0, q1, ()) ((), (), ())))
noncomputable def pl_r9_Order : Nat → Option (Fx.Spec Sg) := findN ([(5, ⟨[0, 1], [], [], [(.slot 6, .int IntKind.i64)]⟩), (15, ⟨[0, 1, 6, 12, 13, 14, 15], [], [], [(.slot 7, .int IntKind.i64)]⟩), (25, ⟨[0, 1, 6, 7, 12, 13, 14, 15, 26, 27, 28, 29], [], [], [(.slot 8, .own 9 C.str)]⟩), (31, ⟨[0, 1, 6, 7, 8, 12, 13, 14, 15, 26, 27, 28, 29, 50, 51, 52, 53, 54], [], [], [(.slot 9, .str), (.slot 10, .bool), (.slot 11, .int IntKind.i64), (.obj 2, .own 9 C.str)]⟩)] : List (Nat × Fx.Spec Sg))
noncomputable def EX_r9_Order (X_r1_Has : T_r1_Has) (X_r9_ready : T_r9_ready) : Ev Sg := ((E0.with 22 (k_r1_Has X_r1_Has)).with 67 (k_r9_ready X_r9_ready))
theorem eqS_r9_Order (X_r1_Has : T_r1_Has) (X_r9_ready : T_r9_ready) (nodes : List (ByteArray)) (edges : List (Edg)) (K : List (ByteArray) → Int → Prop) : S_r9_Order X_r1_Has X_r9_ready nodes edges K = fnV ((EX_r9_Order X_r1_Has X_r9_ready).pl pl_r9_Order) 4 34 ([.sl C.str, .sl C.edge] : List (PK Sg)) ([.own 9 C.str, .v] : List (PK Sg)) ([.sl C.str, .sl C.edge] : List (VT Sg)) ([.vec 9 C.str, .int .i64] : List (VT Sg)) ([.same, .same] : List (VT Sg)) (nodes, edges, ()) (fun r _ => K r.1 r.2.1) := by kernel_rfl
set_option maxRecDepth 100000 in
theorem n_r9_Order : Meets Go.Proofs.Tryz.prog D 34 (k_r9_Order P_r9_Order) := meets3 (E := EX_r9_Order P_r1_Has P_r9_ready) (with3 (with3 h_E0 ent_r1_Has n_r1_Has) ent_r9_ready n_r9_ready) fun a K => eqS_r9_Order P_r1_Has P_r9_ready a.1 a.2.1 (fun q0 q1 => K (q0, q1, ()) ((), (), ()))
theorem ent_r11_Order : Ent Go.Proofs.Tryz.prog 16 := ent_at (by kernel_rfl) (by kernel_rfl) (by kernel_rfl)
noncomputable def k_r11_Order (X : T_r11_Order) : Con Sg := conV ([.sl C.seg] : List (PK Sg)) ([.sl C.seg] : List (VT Sg)) ([.vec 9 C.str, .int .i64] : List (VT Sg)) ([.same] : List (VT Sg)) (fun a K => X a.1 (fun q0 q1 => K (q0, q1, ()) ((), ())))
noncomputable def pl_r11_Order : Nat → Option (Fx.Spec Sg) := findN ([] : List (Nat × Fx.Spec Sg))
noncomputable def EX_r11_Order (X_r11_Keys : T_r11_Keys) (X_r11_Edges : T_r11_Edges) (X_r9_Order : T_r9_Order) : Ev Sg := (((E0.with 35 (k_r11_Keys X_r11_Keys)).with 36 (k_r11_Edges X_r11_Edges)).with 34 (k_r9_Order X_r9_Order))
theorem eqS_r11_Order (X_r11_Keys : T_r11_Keys) (X_r11_Edges : T_r11_Edges) (X_r9_Order : T_r9_Order) (l : List (Seg)) (K : List (ByteArray) → Int → Prop) : S_r11_Order X_r11_Keys X_r11_Edges X_r9_Order l K = fnV ((EX_r11_Order X_r11_Keys X_r11_Edges X_r9_Order).pl pl_r11_Order) 4 16 ([.sl C.seg] : List (PK Sg)) ([.own 9 C.str, .v] : List (PK Sg)) ([.sl C.seg] : List (VT Sg)) ([.vec 9 C.str, .int .i64] : List (VT Sg)) ([.same] : List (VT Sg)) (l, ()) (fun r _ => K r.1 r.2.1) := by kernel_rfl
set_option maxRecDepth 100000 in
theorem n_r11_Order : Meets Go.Proofs.Tryz.prog D 16 (k_r11_Order P_r11_Order) := meets3 (E := EX_r11_Order P_r11_Keys P_r11_Edges P_r9_Order) (with3 (with3 (with3 h_E0 ent_r11_Keys n_r11_Keys) ent_r11_Edges n_r11_Edges) ent_r9_Order n_r9_Order) fun a K => eqS_r11_Order P_r11_Keys P_r11_Edges P_r9_Order a.1 (fun q0 q1 => K (q0, q1, ()) ((), ()))
noncomputable def k_law12_SegmentReferences (X : T_law12_SegmentReferences) : Con Sg := conV ([.sl C.u8, .el C.ex] : List (PK Sg)) ([.sl C.u8, .el C.ex] : List (VT Sg)) ([.bool] : List (VT Sg)) ([.same, .same] : List (VT Sg)) (fun a K => X a.1 a.2.1 (fun q0 => K (q0, ()) ((), (), ())))
noncomputable def pl_law12_SegmentReferences : Nat → Option (Fx.Spec Sg) := findN ([(19, ⟨[0, 1, 3, 5, 14, 15, 16, 17, 18, 19, 20, 21], [0], [(1, (71, 2))], [(.slot 7, .own 33 C.seg), (.slot 8, .int IntKind.i64), (.slot 6, .sl C.str), (.slot 22, .sl C.str), (.cell 1 1, .int IntKind.i64)]⟩), (28, ⟨[0, 1, 3, 5, 6, 7, 8, 9, 14, 15, 16, 17, 18, 19, 20, 21, 22, 23, 24, 25, 26, 29, 30, 31, 32, 33], [], [(8, (33, 9)), (1, (71, 2))], [(.cell 8 4, .int IntKind.i64), (.cell 8 5, .str), (.cell 8 6, .str), (.cell 8 7, .sl C.val), (.cell 8 8, .sl C.ex), (.cell 1 1, .int IntKind.i64), (.obj 3, .own 33 C.seg)]⟩), (38, ⟨[0, 1, 3, 5, 6, 8, 14, 15, 16, 17, 18, 19, 20, 21, 22, 23, 24, 25, 26], [0], [(1, (71, 2))], [(.slot 7, .sl C.seg), (.cell 1 1, .int IntKind.i64)]⟩)] : List (Nat × Fx.Spec Sg))
noncomputable def EX_law12_SegmentReferences (X_law12_awake : T_law12_awake) (X_d_New : T_d_New) (X_segment_Refers : T_segment_Refers) (X_r11_Refers : T_r11_Refers) (X_r1_Same : T_r1_Same) (X_d_Next : T_d_Next) (X_d_Expr : T_d_Expr) (X_segment_Order : T_segment_Order) (X_r11_Order : T_r11_Order) : Ev Sg := (((((((((E0.with 8 (k_law12_awake X_law12_awake)).with 9 (k_d_New X_d_New)).with 13 (k_segment_Refers X_segment_Refers)).with 14 (k_r11_Refers X_r11_Refers)).with 12 (k_r1_Same X_r1_Same)).with 10 (k_d_Next X_d_Next)).with 11 (k_d_Expr X_d_Expr)).with 15 (k_segment_Order X_segment_Order)).with 16 (k_r11_Order X_r11_Order))
theorem eqS_law12_SegmentReferences (X_law12_awake : T_law12_awake) (X_d_New : T_d_New) (X_segment_Refers : T_segment_Refers) (X_r11_Refers : T_r11_Refers) (X_r1_Same : T_r1_Same) (X_d_Next : T_d_Next) (X_d_Expr : T_d_Expr) (X_segment_Order : T_segment_Order) (X_r11_Order : T_r11_Order) (codes : List (Int)) (e : Ex) (K : Bool → Prop) : S_law12_SegmentReferences X_law12_awake X_d_New X_segment_Refers X_r11_Refers X_r1_Same X_d_Next X_d_Expr X_segment_Order X_r11_Order codes e K = fnV ((EX_law12_SegmentReferences X_law12_awake X_d_New X_segment_Refers X_r11_Refers X_r1_Same X_d_Next X_d_Expr X_segment_Order X_r11_Order).pl pl_law12_SegmentReferences) 4 3 ([.sl C.u8, .el C.ex] : List (PK Sg)) ([.v] : List (PK Sg)) ([.sl C.u8, .el C.ex] : List (VT Sg)) ([.bool] : List (VT Sg)) ([.same, .same] : List (VT Sg)) (codes, e, ()) (fun r _ => K r.1) := by kernel_rfl
set_option maxRecDepth 100000 in
theorem n_law12_SegmentReferences : Meets Go.Proofs.Tryz.prog D 3 (k_law12_SegmentReferences P_law12_SegmentReferences) := meets3 (E := EX_law12_SegmentReferences P_law12_awake P_d_New P_segment_Refers P_r11_Refers P_r1_Same P_d_Next P_d_Expr P_segment_Order P_r11_Order) (with3 (with3 (with3 (with3 (with3 (with3 (with3 (with3 (with3 h_E0 ent_law12_awake n_law12_awake) ent_d_New n_d_New) ent_segment_Refers n_segment_Refers) ent_r11_Refers n_r11_Refers) ent_r1_Same n_r1_Same) ent_d_Next n_d_Next) ent_d_Expr n_d_Expr) ent_segment_Order n_segment_Order) ent_r11_Order n_r11_Order) fun a K => eqS_law12_SegmentReferences P_law12_awake P_d_New P_segment_Refers P_r11_Refers P_r1_Same P_d_Next P_d_Expr P_segment_Order P_r11_Order a.1 a.2.1 (fun q0 => K (q0, ()) ((), (), ()))
end Go.En
end
section
namespace Go.En
open Go Go.Fl Go.Fl.Lk Go.Fx
theorem Cnd.mk {c A B : Prop} (h : c → A) (k : ¬ c → B) : Cnd c A B := ⟨h, k⟩
structure DS (list : List Int) (at_ : Int) : Prop where
  len : list.length ≤ 1000
  lo : 0 ≤ at_
  hi : at_ ≤ list.length
  byte : ∀ x ∈ list, 0 ≤ x ∧ x < 256
theorem getm {α : Type} {l : List α} {k : Nat} {x : α} (h : l[k]? = some x) : x ∈ l := List.mem_of_getElem? h
theorem encode_size (n : Int) : (Go.Utf8.encode n).size ≤ 4 := by
  unfold Go.Utf8.encode
  generalize (if Go.Utf8.valid n then n.toNat else Go.Utf8.runeError) = c
  show (if c < 0x80 then _ else if c < 0x800 then _ else if c < 0x10000 then _ else _ : ByteArray).size ≤ 4
  have h1 : ∀ a : UInt8, (ByteArray.mk #[a]).size ≤ 4 := fun _ => (by decide : 1 ≤ 4)
  have h2 : ∀ a b : UInt8, (ByteArray.mk #[a, b]).size ≤ 4 := fun _ _ => (by decide : 2 ≤ 4)
  have h3 : ∀ a b c : UInt8, (ByteArray.mk #[a, b, c]).size ≤ 4 := fun _ _ _ => (by decide : 3 ≤ 4)
  have h4 : ∀ a b c d : UInt8, (ByteArray.mk #[a, b, c, d]).size ≤ 4 := fun _ _ _ _ => (by decide : 4 ≤ 4)
  split
  · exact h1 _
  · split
    · exact h2 _ _
    · split
      · exact h3 _ _ _
      · exact h4 _ _ _ _
theorem d_Next_ok {list : List Int} {at_ n : Int} {K : Int → Int → Prop} (hD : DS list at_) (hn : 1 ≤ n) (h : ∀ r a, 0 ≤ r → r < n → DS list a → K r a) : P_d_Next list at_ n K := by
  obtain ⟨h1, h2, h3, h4⟩ := hD
  unfold P_d_Next S_d_Next P_d_Left
  refine fun _ => Cnd.mk (fun hl => ?_) (fun _ => h _ _ (by omega) (by omega) ⟨h1, h2, h3, h4⟩)
  have hl := of_decide_eq_true hl
  refine ⟨by unfold InI; omega, by unfold InI; omega, by omega, fun y hy => ⟨by unfold InI; have := h4 _ (getm hy); omega, by omega, ?_⟩⟩
  obtain ⟨a, b⟩ := h4 _ (getm hy)
  exact h _ _ (Int.tmod_nonneg _ a) (by have := Int.tmod_lt_of_pos y (b := n) (by omega); omega) ⟨h1, by omega, by omega, h4⟩
theorem d_Text_ok {list : List Int} {at_ : Int} {K : ByteArray → Int → Prop} (hD : DS list at_) (h : ∀ r a, r ∈ tTexts → DS list a → K r a) : P_d_Text list at_ K := by
  unfold P_d_Text S_d_Text
  exact d_Next_ok hD (by decide) fun r a r0 r1 hD => ⟨⟨r0, r1⟩, fun y hy => h _ _ (getm hy) hD⟩
theorem sz_k (n : Int) : (ByteArray.mk (Array.mk [(107 : UInt8)]) ++ Go.Utf8.encode n).size ≤ 5 := by
  rw [ByteArray.size_append]; have := encode_size n; show 1 + _ ≤ 5; omega
theorem d_Key_ok {list : List Int} {at_ : Int} {K : ByteArray → Int → Prop} (hD : DS list at_) (h : ∀ r a, r.size ≤ 5 → DS list a → K r a) : P_d_Key list at_ K := by
  unfold P_d_Key S_d_Key
  refine d_Next_ok hD (by decide) fun r a r0 r1 hD => ⟨by unfold InI; omega, ?_, h _ _ (sz_k _) hD⟩
  have := encode_size (Go.IntKind.i32.wrap (48 + r)); have e : (ByteArray.mk (Array.mk [(107 : UInt8)])).size = 1 := rfl; omega
theorem sz0 : (ByteArray.mk (Array.mk ([] : List UInt8))).size ≤ 100 := by decide
structure ValS (v : Val) : Prop where
  num : InI v.number
  txt : v.text.size ≤ 100
  len : v.list.length ≤ 10
  txs : ∀ s ∈ v.list, s.size ≤ 100
theorem d_Value_ok {list : List Int} {at_ kind : Int} {K : Val → Int → Prop} (hD : DS list at_) (h : ∀ r a, ValS r → DS list a → K r a) : P_d_Value list at_ kind K := by
  unfold P_d_Value S_d_Value
  have tt : ∀ s ∈ tTexts, s.size ≤ 100 := by decide
  have tv : ∀ s ∈ tVersions, s.size ≤ 100 := by decide
  have tl : ∀ l ∈ tLists, l.length ≤ 10 ∧ ∀ s ∈ l, s.size ≤ 100 := by decide
  refine Cnd.mk (fun _ => ?_) fun _ => Cnd.mk (fun _ => fun _ => ?_) fun _ => Cnd.mk (fun _ => ?_) fun _ => Cnd.mk (fun _ => ?_) fun _ => ?_
  · exact d_Next_ok hD (by decide) fun r a r0 r1 hD => h _ _ ⟨by unfold InI; simp only; omega, sz0, by simp, by simp⟩ hD
  · refine d_Next_ok hD (by decide) fun r a r0 r1 hD => ⟨⟨r0, r1⟩, fun y hy => h _ _ ⟨?_, sz0, by simp, by simp⟩ hD⟩
    have := getm hy
    have k : ∀ y ∈ [(0 : Int), (1 : Int), (17 : Int), (18 : Int), (19 : Int), (-5 : Int), (64 : Int), (1099511627776 : Int), (-1099511627776 : Int)], -9223372036854775808 ≤ y ∧ y ≤ 9223372036854775807 := by decide
    exact k y this
  · exact d_Text_ok hD fun r a hr hD => h _ _ ⟨by unfold InI; simp, tt _ hr, by simp, by simp⟩ hD
  · exact d_Next_ok hD (by decide) fun r a r0 r1 hD => ⟨⟨r0, r1⟩, fun y hy => h _ _ ⟨by unfold InI; simp, tv _ (getm hy), by simp, by simp⟩ hD⟩
  · refine d_Next_ok hD (by decide) fun r a r0 r1 hD => ⟨⟨r0, r1⟩, fun y hy => ?_⟩
    obtain ⟨a1, a2⟩ := tl _ (getm hy)
    exact ⟨by unfold Sml; simp; omega, h _ _ ⟨by unfold InI; simp, sz0, by simpa using a1, by simpa using a2⟩ hD⟩
/-- Values of a test. -/
structure VsS (l : List Val) : Prop where
  len : l.length ≤ 4
  all : ∀ v ∈ l, ValS v
theorem VsS.nil : VsS [] := ⟨by simp, by simp⟩
theorem VsS.one {v : Val} (h : ValS v) : VsS [v] := ⟨by simp, by simpa using h⟩
/-- A condition with so many levels. -/
def ExS : Nat → Ex → Prop
  | 0, e => VsS e.values ∧ (e.name.size ≤ 100 ∧ e.kind.size ≤ 100) ∧ (InI e.op ∧ (2 ≤ e.op → e.op ≤ 4 → e.kids ≠ [])) ∧ e.kids = []
  | n + 1, e => VsS e.values ∧ (e.name.size ≤ 100 ∧ e.kind.size ≤ 100) ∧ (InI e.op ∧ (2 ≤ e.op → e.op ≤ 4 → e.kids ≠ [])) ∧ e.kids.length ≤ 3 ∧ ∀ k ∈ e.kids, ExS n k
theorem ExS.vals {n : Nat} {e : Ex} (h : ExS n e) : VsS e.values := by cases n <;> exact h.1
/-- An operation of no part. -/
def OpL (op : Int) : Prop := InI op ∧ ¬ (2 ≤ op ∧ op ≤ 4)
theorem OpL.ok {op : Int} (h : OpL op) {l : List Ex} : InI op ∧ (2 ≤ op → op ≤ 4 → l ≠ []) := ⟨h.1, fun a b => absurd ⟨a, b⟩ h.2⟩
theorem opl {op : Int} (h : (6 ≤ op ∧ op ≤ 100) ∨ op = 0 ∨ op = 1 ∨ op = 5) {l : List Ex} : InI op ∧ (2 ≤ op → op ≤ 4 → l ≠ []) := ⟨by unfold InI; omega, fun a b => by omega⟩
theorem d_Declared_ok {K : List Decl → Prop} (h : ∀ l, l.length = 8 → (∀ d ∈ l, d.kind.size ≤ 100 ∧ d.name.size ≤ 100 ∧ 1 ≤ d.type ∧ d.type ≤ 5) → K l) : P_d_Declared K := by
  unfold P_d_Declared
  exact h _ rfl (by decide)
theorem d_Test_ok {list : List Int} {at_ : Int} {K : Ex → Int → Prop} (hD : DS list at_) (h : ∀ r a, ExS 0 r → 6 ≤ r.op → DS list a → K r a) : P_d_Test list at_ K := by
  unfold P_d_Test S_d_Test
  refine d_Declared_ok fun l hl hd _ => ⟨by unfold InI; omega, d_Next_ok hD (by omega) fun r a r0 r1 hD _ => Cnd.mk (fun _ => ?_) fun hc => ⟨by omega, fun y hy => ?_⟩⟩
  · exact d_Key_ok hD fun s a hs hD => h _ _ ⟨.one ⟨by unfold InI; simp, by show s.size ≤ 100; omega, by simp, by simp⟩, ⟨(by decide : (ByteArray.mk (Array.mk [(107 : UInt8), (101 : UInt8), (121 : UInt8)])).size ≤ 100), (by decide : (ByteArray.mk (Array.mk [(117 : UInt8), (115 : UInt8), (101 : UInt8), (114 : UInt8)])).size ≤ 100)⟩, opl (by simp), rfl⟩ (by simp) hD
  obtain ⟨hy0, hy1, hy2, hy3⟩ := hd y (getm hy)
  have one : ∀ {op : Int} {v : Val}, OpL op → ValS v → ExS 0 (Ex.mk op y.kind y.name [v] []) := fun ho hv => ⟨.one hv, ⟨hy1, hy0⟩, ho.ok, rfl⟩
  refine Jn1.mk (fun x => (∃ b, x = (b, y.kind, y.name, ([] : List Val), ([] : List Ex), x.2.2.2.2.2.1, 0, ByteArray.mk (Array.mk []), ByteArray.mk (Array.mk []), [], [], ())) ∧ DS list x.2.2.2.2.2.1) ?_ ?_
  case refine_2 =>
    rintro x ⟨⟨b, hx⟩, hD⟩
    refine d_Value_ok hD fun v a hv hD => h _ _ ?_ (by simp) hD
    rw [hx]
    exact one ⟨by unfold InI; simp, by decide⟩ hv
  refine d_Next_ok hD (by decide) fun q a q0 q1 hD => ?_
  refine Jn1.mk (fun x => (∃ b, x = (x.1, b, y.kind, y.name, ([] : List Val), ([] : List Ex), 0, ByteArray.mk (Array.mk []), ByteArray.mk (Array.mk []), [], [], ())) ∧ DS list x.1) ?_ ?_
  case refine_2 =>
    rintro x ⟨⟨b, hx⟩, hD⟩
    have cmp : P_d_Next list x.1 4 fun r a => InI (12 + r) ∧ P_d_Value list a y.3 fun v a => K (Ex.mk (12 + r) x.2.2.1 x.2.2.2.1 [v] x.2.2.2.2.2.1) a := by
      refine d_Next_ok hD (by decide) fun r a r0 r1 hD => ⟨by unfold InI; omega, d_Value_ok hD fun v a hv hD => h _ _ ?_ (by simp only; omega) hD⟩
      rw [hx]
      exact one ⟨by unfold InI; omega, by omega⟩ hv
    refine Cnd.mk (fun _ => cmp) fun _ => Cnd.mk (fun _ => cmp) fun _ => Cnd.mk (fun _ => cmp) fun _ => ?_
    refine ⟨⟨b, ?_⟩, hD⟩
    rw [hx]
  have nx : ∀ {a : Int}, DS list a → (fun x : Int × ByteArray × ByteArray × List Val × List Ex × Int × Int × ByteArray × ByteArray × List Val × List Ex × Unit => (∃ b, x = (b, y.kind, y.name, ([] : List Val), ([] : List Ex), x.2.2.2.2.2.1, 0, ByteArray.mk (Array.mk []), ByteArray.mk (Array.mk []), [], [], ())) ∧ DS list x.2.2.2.2.2.1) ((0 : Int), y.1, y.2, [], [], a, (0 : Int), ByteArray.mk (Array.mk []), ByteArray.mk (Array.mk []), [], [], ()) := fun hD => ⟨⟨0, rfl⟩, hD⟩
  refine Cnd.mk (fun _ => h _ _ ⟨.nil, ⟨hy1, hy0⟩, opl (by simp), rfl⟩ (by simp) hD) fun _ => Cnd.mk (fun _ => ?_) fun _ => Cnd.mk (fun _ => ?_) fun _ => Cnd.mk (fun _ => ?_) fun _ => Cnd.mk (fun _ => ?_) fun _ => nx hD
  · refine Cnd.mk (fun _ => nx hD) fun _ => ?_
    refine Lp3.ind (fun i l a => DS list a ∧ 0 ≤ i ∧ i ≤ 3 ∧ (l.length : Int) = i ∧ ∀ v ∈ l, ValS v) (fun i _ _ => (3 - i).toNat) ?_ ⟨hD, by decide, by decide, rfl, by simp⟩
    rintro i l a ⟨hD, i0, i3, hl, hv⟩
    refine d_Next_ok hD (by decide) fun r a r0 r1 hD => Cnd.mk (fun hc => d_Value_ok hD fun v a hv' hD => ⟨by unfold Sml; simp; omega, by unfold InI; omega, ⟨hD, by omega, by omega, by simp; omega, fun u hu => ?_⟩, by omega⟩) (fun hc => h _ _ ⟨⟨by simp only; omega, hv⟩, ⟨hy1, hy0⟩, opl (by simp), rfl⟩ (by simp) hD)
    rcases List.mem_append.1 hu with hu | hu
    · exact hv u hu
    · rw [List.mem_singleton.1 hu]; exact hv'
  · have c : P_d_Value list a 3 fun v a => K (Ex.mk 11 y.1 y.2 [v] []) a := d_Value_ok hD fun v a hv hD => h _ _ (one ⟨by unfold InI; simp, by decide⟩ hv) (by simp) hD
    exact Cnd.mk (fun _ => c) fun _ => Cnd.mk (fun _ => c) fun _ => nx hD
  · exact Cnd.mk (fun _ => d_Next_ok hD (by decide) fun r a r0 r1 hD => ⟨by unfold InI; omega, d_Value_ok hD fun v a hv hD => h _ _ (one ⟨by unfold InI; omega, by omega⟩ hv) (by simp only; omega) hD⟩) fun _ => ⟨⟨0, rfl⟩, hD⟩
  · exact ⟨⟨0, rfl⟩, hD⟩
theorem mem_snoc {α : Type} {P : α → Prop} {l : List α} {x : α} (h : ∀ y ∈ l, P y) (hx : P x) : ∀ y ∈ l ++ [x], P y := fun y hy => by
  rcases List.mem_append.1 hy with hy | hy
  · exact h y hy
  · rw [List.mem_singleton.1 hy]; exact hx
end Go.En
end
section
namespace Go.En
open Go Go.Fl Go.Fl.Lk Go.Fx
theorem r1_Same_ok {a b : List ByteArray} {K : Bool → Prop} (h : ∀ r, (r = true ↔ a = b) → K r) : P_r1_Same a b K := by
  unfold P_r1_Same
  intro ha hb
  refine Cnd.mk (fun hl => ?_) fun hl => h _ ⟨fun h => (by cases h), fun e => by rw [e] at hl; exact absurd rfl hl⟩
  refine Lp1.ind (fun (i : Int) => 0 ≤ i ∧ i ≤ a.length ∧ a.take i.toNat = b.take i.toNat) (fun (i : Int) => (a.length - i).toNat) ?_ ⟨by omega, by omega, by simp⟩
  rintro i ⟨i0, i1, he⟩ _
  refine Cnd.mk (fun hc => ⟨by omega, fun x hx => ⟨by omega, fun y hy => Cnd.mk (fun hc => ⟨by unfold InI; omega, ⟨by omega, by omega, ?_⟩, by omega⟩) fun hc => h _ ⟨fun h => (by cases h), fun h => ?_⟩⟩⟩) fun hc => h _ ⟨fun _ => ?_, fun _ => rfl⟩
  · rw [show (i + 1).toNat = i.toNat + 1 by omega, List.take_add_one, List.take_add_one, he, hx, hy, hc]
  · subst h; rw [hx] at hy; cases hy; exact absurd rfl hc
  · rwa [List.take_of_length_le (by omega), List.take_of_length_le (by omega)] at he
theorem r1_Has_ok {l : List ByteArray} {s : ByteArray} {K : Bool → Prop} (h : ∀ r, (r = true ↔ s ∈ l) → K r) : P_r1_Has l s K := by
  unfold P_r1_Has
  refine Lp1.ind (fun (i : Int) => 0 ≤ i ∧ i ≤ l.length ∧ s ∉ l.take i.toNat) (fun (i : Int) => (l.length - i).toNat) ?_ ⟨by omega, by omega, by simp⟩
  rintro i ⟨i0, i1, he⟩ _
  refine Cnd.mk (fun hc => ⟨by omega, fun x hx => Cnd.mk (fun e => h _ ⟨fun _ => e ▸ getm hx, fun _ => rfl⟩) fun e => ⟨by unfold InI; omega, ⟨by omega, by omega, ?_⟩, by omega⟩⟩) fun hc => h _ ⟨fun h => (by cases h), fun hm => ?_⟩
  · rw [show (i + 1).toNat = i.toNat + 1 by omega, List.take_add_one, hx]; simp [he, Ne.symm e]
  · rw [List.take_of_length_le (by omega)] at he; exact absurd hm he
theorem r3_Equal_ok {a b : Val} {K : Bool → Prop} (h : ∀ r, (r = true ↔ a = b) → K r) : P_r3_Equal a b K := by
  unfold P_r3_Equal S_r3_Equal
  have no : (a ≠ b) → K false := fun hn => h _ ⟨fun h => (by cases h), fun e => absurd e hn⟩
  refine Cnd.mk (fun h1 => Cnd.mk (fun h2 => Cnd.mk (fun h3 => r1_Same_ok fun r hr => h r (hr.trans ⟨fun h4 => ?_, fun e => by rw [e]⟩)) fun h => no fun e => h (by rw [e])) fun h => no fun e => h (by rw [e])) fun h => no fun e => h (by rw [e])
  cases a; cases b; simp_all
theorem exEta {e : Ex} : Ex.mk e.op e.kind e.name e.values e.kids = e := by cases e; rfl
theorem r6_IsTest_ok {op : Int} {K : Bool → Prop} (h : ∀ r, (r = true ↔ 6 ≤ op ∧ op ≤ 15) → K r) : P_r6_IsTest op K := by
  unfold P_r6_IsTest
  exact Cnd.mk (fun h6 => h _ ⟨fun a => ⟨h6, of_decide_eq_true a⟩, fun a => decide_eq_true a.2⟩) fun h6 => h _ ⟨fun a => (by cases a), fun a => absurd a.1 h6⟩
/-- The first element with a key. -/
theorem find_loop {α : Type} {l : List α} {f : α → ByteArray} {key : ByteArray} {K : Int → Prop} (h : ∀ r : Int, (r = -1 ∧ ∀ x ∈ l, f x ≠ key) ∨ (0 ≤ r ∧ r < l.length ∧ (∃ x, l[r.toNat]? = some x ∧ f x = key) ∧ ∀ x ∈ l.take r.toNat, f x ≠ key) → K r) :
    Lp1 (fun i Y => l.length ≤ 9223372036854775807 → Cnd (i < (l.length : Int)) ((0 ≤ i ∧ i < (l.length : Int)) ∧ ∀ y, l[i.toNat]? = some y → Cnd (f y = key) (K i) (InI (i + 1) ∧ Y (i + 1))) (K (-1))) 0 := by
  refine Lp1.ind (fun (i : Int) => 0 ≤ i ∧ i ≤ l.length ∧ ∀ x ∈ l.take i.toNat, f x ≠ key) (fun (i : Int) => (l.length - i).toNat) ?_ ⟨by omega, by omega, by simp⟩
  rintro i ⟨i0, i1, he⟩ _
  refine Cnd.mk (fun hc => ⟨by omega, fun x hx => Cnd.mk (fun e => h _ (.inr ⟨i0, hc, ⟨x, hx, e⟩, he⟩)) fun e => ⟨by unfold InI; omega, ⟨by omega, by omega, ?_⟩, by omega⟩⟩) fun hc => h _ (.inl ⟨rfl, ?_⟩)
  · rw [show (i + 1).toNat = i.toNat + 1 by omega, List.take_add_one, hx]
    exact mem_snoc he e
  · rwa [List.take_of_length_le (by omega)] at he
/-- The keys of a list. -/
theorem keys_loop {α : Type} {l : List α} {f : α → ByteArray} {K : List ByteArray → Prop} (hl : l.length ≤ 1000000) (h : K (l.map f)) :
    Lp2 (fun (r : List ByteArray) (i : Int) Y => l.length ≤ 9223372036854775807 → Cnd (i < (l.length : Int)) ((0 ≤ i ∧ i < (l.length : Int)) ∧ ∀ y, l[i.toNat]? = some y → Sml (r ++ [f y]).length ∧ InI (i + 1) ∧ Y (r ++ [f y]) (i + 1)) (K r)) [] 0 := by
  refine Lp2.ind (fun (r : List ByteArray) (i : Int) => 0 ≤ i ∧ i ≤ l.length ∧ r = (l.take i.toNat).map f) (fun _ (i : Int) => (l.length - i).toNat) ?_ ⟨Int.le_refl 0, by omega, by simp⟩
  rintro r i ⟨i0, i1, rfl⟩ _
  refine Cnd.mk (fun hc => ⟨by omega, fun y hy => ⟨by unfold Sml; simp; omega, by unfold InI; omega, ⟨by omega, by omega, ?_⟩, by omega⟩⟩) fun hc => ?_
  · rw [show (i + 1).toNat = i.toNat + 1 by omega, List.take_add_one, hy]; simp
  · rw [List.take_of_length_le (by omega)]; exact h
theorem r11_Keys_ok {l : List Seg} {K : List ByteArray → Prop} (hl : l.length ≤ 1000000) (h : K (l.map Seg.key)) : P_r11_Keys l K := keys_loop hl h
end Go.En
end
section
namespace Go.Sg
open Go
/-- The bytes of a text. -/
abbrev bts (s : ByteArray) : List UInt8 := s.data.toList
theorem bts_len (s : ByteArray) : (bts s).length = s.size := rfl
theorem get_iff {s : ByteArray} {i : Nat} {b : UInt8} : s[i]? = some b ↔ (bts s)[i]? = some b := by
  rw [show s[i]? = s.data[i]? from by
    by_cases h : i < s.size
    · rw [getElem?_pos s i h, getElem?_pos s.data i h]; rfl
    · rw [getElem?_neg s i h, getElem?_neg s.data i h]]
  rw [Array.getElem?_toList]
theorem get!_of {s : ByteArray} {i : Nat} (h : i < s.size) : (bts s)[i]? = some (s.get! i) := by
  have h' : i < s.data.size := h
  show s.data.toList[i]? = some (s.data[i]!)
  rw [Array.getElem?_toList, Array.getElem?_eq_getElem h', getElem!_pos s.data i h']
theorem dec_lo {s : ByteArray} {i : Nat} (h : (s.get! i).toNat < 128) : Utf8.decode s i = ((s.get! i).toNat, 1) := by
  unfold Utf8.decode
  simp only [Nat.add_zero]
  rw [if_pos h]
theorem dec_hi {s : ByteArray} {i : Nat} (h : 128 ≤ (s.get! i).toNat) : 128 ≤ (Utf8.decode s i).1 ∧ 1 ≤ (Utf8.decode s i).2 ∧ ∀ k, k < (Utf8.decode s i).2 → 128 ≤ (s.get! (i + k)).toNat := by
  have k1 : ∀ k, k < 1 → 128 ≤ (s.get! (i + k)).toNat := fun k hk => by rw [show k = 0 by omega]; exact h
  have bad : 128 ≤ (Utf8.runeError, 1).1 ∧ 1 ≤ (Utf8.runeError, 1).2 ∧ ∀ k, k < (Utf8.runeError, 1).2 → 128 ≤ (s.get! (i + k)).toNat := ⟨by decide, by decide, k1⟩
  unfold Utf8.decode
  simp only [Nat.add_zero]
  rw [if_neg (by omega)]
  split
  · rename_i hc
    simp only [Bool.and_eq_true, beq_iff_eq, decide_eq_true_eq] at hc
    split
    · rename_i h2
      refine ⟨h2, by simp, fun k hk => ?_⟩
      have : k = 0 ∨ k = 1 := by simp only at hk; omega
      rcases this with rfl | rfl
      · exact h
      · omega
    · exact bad
  · split
    · rename_i _ hc
      simp only [Bool.and_eq_true, beq_iff_eq, decide_eq_true_eq] at hc
      split
      · rename_i h2
        simp only [Bool.and_eq_true, decide_eq_true_eq] at h2
        refine ⟨by simp only; omega, by simp, fun k hk => ?_⟩
        have : k = 0 ∨ k = 1 ∨ k = 2 := by simp only at hk; omega
        rcases this with rfl | rfl | rfl
        · exact h
        · omega
        · omega
      · exact bad
    · split
      · rename_i _ _ hc
        simp only [Bool.and_eq_true, beq_iff_eq, decide_eq_true_eq] at hc
        split
        · rename_i h2
          simp only [Bool.and_eq_true, decide_eq_true_eq] at h2
          refine ⟨by simp only; omega, by simp, fun k hk => ?_⟩
          have : k = 0 ∨ k = 1 ∨ k = 2 ∨ k = 3 := by simp only at hk; omega
          rcases this with rfl | rfl | rfl | rfl
          · exact h
          · omega
          · omega
          · omega
        · exact bad
      · exact bad
/-- A rune is bad: one below 128 by itself, all others alike. -/
structure RuneP (p : Nat → Prop) : Prop where
  hi : ∀ n, 128 ≤ n → (p n ↔ p 128)
/-- No byte before a place is bad. -/
def Clr (p : Nat → Prop) (s : ByteArray) (k : Nat) : Prop := ∀ i, i < k → i < s.size → ¬ p (s.get! i).toNat
theorem Clr.zero {p : Nat → Prop} {s : ByteArray} : Clr p s 0 := fun _ h => absurd h (Nat.not_lt_zero _)
theorem dec_pos (s : ByteArray) (k : Nat) : 1 ≤ (Utf8.decode s k).2 := by
  rcases Nat.lt_or_ge (s.get! k).toNat 128 with h | h
  · rw [dec_lo h]; exact Nat.le_refl 1
  · exact (dec_hi h).2.1
theorem Clr.step {p : Nat → Prop} (hp : RuneP p) {s : ByteArray} {k : Nat} (h : Clr p s k) (hk : ¬ p (Utf8.decode s k).1) : Clr p s (k + (Utf8.decode s k).2) := by
  intro i hi hs
  rcases Nat.lt_or_ge i k with h1 | h1
  · exact h i h1 hs
  rcases Nat.lt_or_ge (s.get! k).toNat 128 with h2 | h2
  · rw [dec_lo h2] at hk hi
    simp only at hk hi
    rw [show i = k by omega]; exact hk
  · obtain ⟨a, _, c⟩ := dec_hi h2
    have := c (i - k) (by omega)
    rw [show k + (i - k) = i by omega] at this
    rw [hp.hi _ this, ← hp.hi _ a]; exact hk
theorem rune_hit {p : Nat → Prop} (hp : RuneP p) {s : ByteArray} {k : Nat} (hk : p (Utf8.decode s k).1) : p (s.get! k).toNat := by
  rcases Nat.lt_or_ge (s.get! k).toNat 128 with h2 | h2
  · rw [dec_lo h2] at hk; exact hk
  · rw [hp.hi _ h2, ← hp.hi _ (dec_hi h2).1]; exact hk
theorem Clr.all {p : Nat → Prop} {s : ByteArray} {k : Nat} (h : Clr p s k) (hk : s.size ≤ k) : ∀ c ∈ bts s, ¬ p c.toNat := by
  intro c hc
  obtain ⟨i, hi⟩ := List.mem_iff_getElem?.1 hc
  have hl : i < s.size := (List.getElem?_eq_some_iff.1 hi).1
  have := get!_of hl
  rw [hi] at this
  cases this
  exact h i (by omega) hl
theorem hit_mem {s : ByteArray} {k : Nat} (h : k < s.size) : s.get! k ∈ bts s := List.mem_of_getElem? (get!_of h)
/-- What a text may hold. -/
def good (c : UInt8) : Bool := decide (32 ≤ c.toNat) && decide (c.toNat ≠ 127)
/-- A valid text. -/
def vld (s : ByteArray) : Bool := decide (s.size ≤ 200) && Go.Lib.validD (bts s) && (bts s).all good
/-- A digit. -/
def isD (c : UInt8) : Bool := decide (48 ≤ c.toNat) && decide (c.toNat ≤ 57)
def stepD (n : Nat) (c : UInt8) : Nat := 10 * n + (c.toNat - 48)
/-- The number that digits spell, behind others. -/
def valD (n : Nat) (l : List UInt8) : Nat := l.foldl stepD n
def digs (s : ByteArray) : ByteArray := if s[0]? = some 45 then s.extract 1 s.size else s
/-- The number of a text, and the error. -/
def pnum (s : ByteArray) : Int × Int :=
  if (bts (digs s)).all isD = false then (0, 1)
  else if (digs s).size = 0 ∨ ((digs s)[0]? = some 48 ∧ s ≠ ByteArray.mk (Array.mk [48])) then (0, 1)
  else if 1099511627776 < valD 0 (bts (digs s)) then (0, 3)
  else (if (digs s).size < s.size then -(valD 0 (bts (digs s)) : Int) else valD 0 (bts (digs s)), 0)
theorem valD_nil (n : Nat) : valD n [] = n := rfl
theorem valD_cons (n : Nat) (c : UInt8) (l : List UInt8) : valD n (c :: l) = valD (stepD n c) l := List.foldl_cons ..
theorem valD_snoc (n : Nat) (l : List UInt8) (c : UInt8) : valD n (l ++ [c]) = stepD (valD n l) c := by
  unfold valD; rw [List.foldl_append]; rfl
theorem valD_ge : ∀ (l : List UInt8) (n : Nat), n * 10 ^ l.length ≤ valD n l
  | [], n => by simp [valD]
  | c :: l, n => by
    rw [valD_cons, List.length_cons]
    refine Nat.le_trans ?_ (valD_ge l (stepD n c))
    rw [Nat.pow_succ, Nat.mul_comm (10 ^ l.length) 10, ← Nat.mul_assoc]
    exact Nat.mul_le_mul_right _ (by unfold stepD; omega)
theorem valD_le : ∀ (l : List UInt8) (n : Nat), l.all isD = true → valD n l < (n + 1) * 10 ^ l.length
  | [], n, _ => by simp [valD]
  | c :: l, n, h => by
    simp only [List.all_cons, Bool.and_eq_true] at h
    rw [valD_cons, List.length_cons]
    refine Nat.lt_of_lt_of_le (valD_le l (stepD n c) h.2) ?_
    have h1 := h.1
    simp only [isD, Bool.and_eq_true, decide_eq_true_eq] at h1
    rw [Nat.pow_succ, Nat.mul_comm (10 ^ l.length) 10, ← Nat.mul_assoc]
    exact Nat.mul_le_mul_right _ (by unfold stepD; omega)
theorem valD_self : ∀ (l : List UInt8) (n : Nat), n ≤ valD n l := fun l n => Nat.le_trans (by
  have : 0 < 10 ^ l.length := Nat.pow_pos (by decide)
  exact Nat.le_mul_of_pos_right n this) (valD_ge l n)
theorem parse_digits : ∀ (l : List UInt8) (n : Nat), l.all isD = true → Go.Lib.parseUint10 n l = (if valD n l < 18446744073709551616 ∧ n < 18446744073709551616 then .ok (valD n l) else if l = [] then .ok n else .range)
  | [], n, _ => by
    unfold Go.Lib.parseUint10
    rw [valD_nil]
    split <;> simp
  | c :: l, n, h => by
    simp only [List.all_cons, Bool.and_eq_true] at h
    have h1 := h.1
    simp only [isD, Bool.and_eq_true, decide_eq_true_eq] at h1
    have ih := parse_digits l (stepD n c) h.2
    have hs := valD_self l (stepD n c)
    have es : stepD n c = 10 * n + (c.toNat - 48) := rfl
    have e : n * 10 + (c.toNat - 48) = stepD n c := by omega
    have hne : ¬ (c :: l = []) := by simp
    unfold Go.Lib.parseUint10
    rw [if_pos h1, valD_cons, e, if_neg hne]
    generalize stepD n c = m at ih hs es e ⊢
    by_cases h2 : 1844674407370955162 ≤ n
    · rw [if_pos h2, if_neg (by omega)]
    · rw [if_neg h2]
      by_cases h3 : 18446744073709551616 ≤ m
      · rw [if_pos h3, if_neg (by omega)]
      · rw [if_neg h3, ih]
        by_cases h4 : valD m l < 18446744073709551616
        · rw [if_pos ⟨h4, by omega⟩, if_pos ⟨h4, by omega⟩]
        · have : ¬ l = [] := by rintro rfl; rw [valD_nil] at h4; omega
          rw [if_neg (by omega), if_neg this, if_neg (by omega)]
theorem parse_mag {l : List UInt8} (h : l.all isD = true) (hn : l ≠ []) : Go.Lib.parseMag l = (if valD 0 l < 18446744073709551616 then .ok (valD 0 l) else .range) := by
  unfold Go.Lib.parseMag
  rw [if_neg hn, parse_digits l 0 h]
  by_cases h4 : valD 0 l < 18446744073709551616
  · rw [if_pos ⟨h4, by omega⟩, if_pos h4]
  · rw [if_neg (by omega), if_neg h4, if_neg hn]
theorem bts_from {s : ByteArray} {k : Nat} : bts (s.extract k s.size) = (bts s).drop k := by
  show (s.extract k s.size).data.toList = _
  rw [ByteArray.data_extract, Array.toList_extract, List.extract_eq_take_drop, List.take_of_length_le]
  rw [List.length_drop]
  exact Nat.le_refl _
theorem digs_minus {s : ByteArray} (h : s[0]? = some 45) : bts s = 45 :: bts (digs s) ∧ (digs s).size + 1 = s.size := by
  have h0 : 0 < s.size := by
    rw [get_iff] at h; exact (List.getElem?_eq_some_iff.1 h).1
  have e : bts (digs s) = (bts s).drop 1 := by
    unfold digs
    rw [if_pos h, bts_from]
  rw [get_iff] at h
  refine ⟨?_, ?_⟩
  · rw [e]
    cases hb : bts s with
    | nil => rw [hb] at h; simp at h
    | cons c l => rw [hb] at h; simp at h; simp [h]
  · rw [← bts_len, e, List.length_drop, bts_len]; omega
theorem digs_none {s : ByteArray} (h : ¬ s[0]? = some 45) : digs s = s := by unfold digs; rw [if_neg h]
/-- What strconv.Atoi says of a text whose digits are digits. -/
theorem atoi_digits {s : ByteArray} (h : (bts (digs s)).all isD = true) (hn : (digs s).size ≠ 0) : Go.Lib.atoiAll (bts s) = (if valD 0 (bts (digs s)) ≤ (if s[0]? = some 45 then 9223372036854775808 else 9223372036854775807) then .ok (if s[0]? = some 45 then -(valD 0 (bts (digs s)) : Int) else valD 0 (bts (digs s))) else .range) := by
  have hne : bts (digs s) ≠ [] := fun e => hn (by rw [← bts_len, e]; rfl)
  by_cases hm : s[0]? = some 45
  · obtain ⟨e, _⟩ := digs_minus hm
    rw [if_pos hm, if_pos hm, e]
    unfold Go.Lib.atoiAll
    simp only [show (45 : UInt8).toNat = 45 from rfl, or_true, if_true]
    rw [parse_mag h hne]
    generalize valD 0 (bts (digs s)) = v
    by_cases h1 : v < 18446744073709551616
    · rw [if_pos h1]
      by_cases h2 : v ≤ 9223372036854775808
      · rw [if_pos h2]; simp only [not_true, false_and, if_false, true_and]; rw [if_neg (by omega)]
      · rw [if_neg h2]; simp only [not_true, false_and, if_false, true_and]; rw [if_pos (by omega)]
    · rw [if_neg h1, if_neg (by omega)]
  · rw [if_neg hm, if_neg hm]
    rw [digs_none hm] at h hne ⊢
    have hp := parse_mag h hne
    generalize valD 0 (bts s) = v at hp ⊢
    cases hb : bts s with
    | nil => exact absurd hb hne
    | cons c l =>
      have hc' : isD c = true := by rw [hb] at h; simp only [List.all_cons, Bool.and_eq_true] at h; exact h.1
      simp only [isD, Bool.and_eq_true, decide_eq_true_eq] at hc'
      unfold Go.Lib.atoiAll
      simp only []
      rw [if_neg (show ¬ (c.toNat = 43 ∨ c.toNat = 45) by omega), ← hb, hp]
      by_cases h1 : v < 18446744073709551616
      · rw [if_pos h1]
        simp only []
        by_cases h2 : v ≤ 9223372036854775807
        · rw [if_pos h2, if_neg (by omega), if_neg (by omega), if_neg (by omega)]
        · rw [if_neg h2, if_pos (by omega)]
      · rw [if_neg h1, if_neg (by omega)]
/-- The place of the next dot. -/
def dot (s : ByteArray) (k : Nat) : Nat := k + ((bts s).drop k).idxOf 46
theorem dot_ge {s : ByteArray} {k : Nat} : k ≤ dot s k := Nat.le_add_right _ _
theorem dot_le {s : ByteArray} {k : Nat} (h : k ≤ s.size) : dot s k ≤ s.size := by
  have := List.idxOf_le_length (a := (46 : UInt8)) (l := (bts s).drop k)
  rw [List.length_drop, bts_len] at this
  unfold dot; omega
theorem dot_hit {s : ByteArray} {k : Nat} (h : dot s k < s.size) : s[dot s k]? = some 46 := by
  have hl : ((bts s).drop k).idxOf 46 < ((bts s).drop k).length := by rw [List.length_drop, bts_len]; unfold dot at h; omega
  have h2 := List.getElem_idxOf hl
  rw [get_iff]
  unfold dot
  rw [← List.getElem?_drop, List.getElem?_eq_getElem hl, h2]
theorem dot_first {s : ByteArray} {k i : Nat} (h0 : k ≤ i) (h1 : i < dot s k) : s[i]? ≠ some 46 := by
  intro e
  rw [get_iff] at e
  have e2 : ((bts s).drop k)[i - k]? = some 46 := by rw [List.getElem?_drop, show k + (i - k) = i by omega]; exact e
  obtain ⟨hl, e3⟩ := List.getElem?_eq_some_iff.1 e2
  have h2 : i - k < ((bts s).drop k).idxOf 46 := by unfold dot at h1; omega
  have := List.not_of_lt_findIdx (p := fun x => x == (46 : UInt8)) (xs := (bts s).drop k) (i := i - k) h2
  rw [e3] at this
  simp at this
theorem dot_is {s : ByteArray} {k i : Nat} (h0 : k ≤ i) (hs : s[i]? = some 46) (hn : ∀ j, k ≤ j → j < i → s[j]? ≠ some 46) : dot s k = i := by
  have hi : i < s.size := (List.getElem?_eq_some_iff.1 (get_iff.1 hs)).1
  rcases Nat.lt_trichotomy (dot s k) i with h | h | h
  · exact absurd (dot_hit (show dot s k < s.size by omega)) (hn _ dot_ge h)
  · exact h
  · exact absurd hs (dot_first h0 h)
theorem dot_end {s : ByteArray} {k : Nat} (hk : k ≤ s.size) (hn : ∀ j, k ≤ j → j < s.size → s[j]? ≠ some 46) : dot s k = s.size := by
  rcases Nat.lt_or_ge (dot s k) s.size with h | h
  · exact absurd (dot_hit h) (hn _ dot_ge h)
  · have := dot_le hk; omega
/-- A part of a version. -/
def okp (p : Int × Int) : Bool := decide (p.2 = 0) && decide (0 ≤ p.1) && decide (p.1 ≤ 999999)
def vpart (s : ByteArray) (k : Nat) : Int × Int := pnum (s.extract k (dot s k))
/-- That a text is a version. -/
def isVer (s : ByteArray) : Prop := (dot s 0 < s.size ∧ okp (vpart s 0) = true) ∧ (dot s (dot s 0 + 1) < s.size ∧ okp (vpart s (dot s 0 + 1)) = true) ∧ ¬ dot s (dot s (dot s 0 + 1) + 1) < s.size ∧ okp (vpart s (dot s (dot s 0 + 1) + 1)) = true
instance (s : ByteArray) : Decidable (isVer s) := by unfold isVer; infer_instance
/-- The parts of a version. -/
def prt (s : ByteArray) : (Int × Int × Int) × Bool :=
  if isVer s then (((vpart s 0).1, (vpart s (dot s 0 + 1)).1, (vpart s (dot s (dot s 0 + 1) + 1)).1), true) else ((0, 0, 0), false)
theorem prt_no {s : ByteArray} (h : ¬ isVer s) : prt s = ((0, 0, 0), false) := if_neg h
theorem prt_yes {s : ByteArray} (h : isVer s) : prt s = (((vpart s 0).1, (vpart s (dot s 0 + 1)).1, (vpart s (dot s (dot s 0 + 1) + 1)).1), true) := if_pos h
abbrev dotB : ByteArray := ByteArray.mk (Array.mk [46])
theorem index_dot : ∀ l : List UInt8, Go.Lib.index l [46] = if l.idxOf 46 < l.length then ((l.idxOf 46 : Nat) : Int) else -1
  | [] => rfl
  | b :: l => by
    have ih := index_dot l
    unfold Go.Lib.index
    by_cases hb : b = 46
    · subst hb
      rw [if_pos (by simp [List.isPrefixOf]), List.idxOf_cons_self, if_pos (by simp)]; rfl
    · have hx : (b :: l).idxOf 46 = l.idxOf 46 + 1 := by rw [List.idxOf_cons, show (b == (46 : UInt8)) = false by simpa using hb]; rfl
      rw [if_neg (by simp [List.isPrefixOf, Ne.symm hb]), hx, ih, List.length_cons]
      by_cases h : l.idxOf 46 < l.length
      · simp only [if_pos h]
        rw [if_neg (by simp only [beq_iff_eq]; omega), if_pos (by omega)]
        push_cast; rfl
      · simp only [if_neg h]
        rw [if_pos (by decide), if_neg (by omega)]
theorem size_from {s : ByteArray} {k : Nat} : (s.extract k s.size).size = s.size - k := by rw [ByteArray.size_extract]; omega
theorem indexB_from {s : ByteArray} {k : Nat} (hk : k ≤ s.size) : Go.Lib.indexB (s.extract k s.size) dotB = if dot s k < s.size then ((dot s k - k : Nat) : Int) else -1 := by
  show Go.Lib.index (bts (s.extract k s.size)) [46] = _
  rw [bts_from, index_dot, List.length_drop, bts_len]
  have e : dot s k - k = ((bts s).drop k).idxOf 46 := by unfold dot; omega
  rw [e]
  have hg := dot_ge (s := s) (k := k)
  by_cases h : dot s k < s.size
  · rw [if_pos h, if_pos (by omega)]
  · rw [if_neg h, if_neg (by omega)]
/-- The parts of a text from a place on. -/
def pc (s : ByteArray) (k : Nat) : List ByteArray := Go.Lib.splitB dotB 0 (Go.Lib.countB (s.extract k s.size) dotB) (s.extract k s.size)
theorem ext2 {s : ByteArray} {k i : Nat} (h : k + i ≤ s.size) : (s.extract k s.size).extract 0 i = s.extract k (k + i) := by
  apply ByteArray.ext
  have : s.data.size = s.size := rfl
  simp only [ByteArray.data_extract, Array.extract_extract]
  congr 1
  omega
theorem ext3 {s : ByteArray} {k i : Nat} : (s.extract k s.size).extract i (s.extract k s.size).size = s.extract (k + i) s.size := by
  apply ByteArray.ext
  rw [size_from]
  have : s.data.size = s.size := rfl
  simp only [ByteArray.data_extract, Array.extract_extract]
  congr 1
  omega
theorem pc_miss {s : ByteArray} {k : Nat} (hk : k ≤ s.size) (h : ¬ dot s k < s.size) : pc s k = [s.extract k s.size] := by
  unfold pc
  exact Go.Lib.splitB_miss _ _ _ _ (by rw [indexB_from hk, if_neg h])
theorem pc_hit {s : ByteArray} {k : Nat} (hk : k ≤ s.size) (h : dot s k < s.size) : pc s k = s.extract k (dot s k) :: pc s (dot s k + 1) := by
  have hi := indexB_from hk
  rw [if_pos h] at hi
  have hg := dot_ge (s := s) (k := k)
  unfold pc
  rw [Go.Lib.countB_hit _ dotB _ (by decide) hi, Nat.add_comm, Go.Lib.splitB_hit _ _ _ _ _ hi]
  have e1 : dotB.size = 1 := rfl
  rw [Nat.add_zero, e1, ext2 (by omega), ext3, show k + (dot s k - k) = dot s k by omega, show k + (dot s k - k + 1) = dot s k + 1 by omega]
theorem least {p : Nat → Prop} : ∀ n, p n → ∃ n, p n ∧ ∀ k, k < n → ¬ p k := by
  intro n
  induction n using Nat.strongRecOn with
  | _ n ih =>
    intro h
    by_cases hx : ∃ k, k < n ∧ p k
    · obtain ⟨k, hk, hp⟩ := hx; exact ih k hk hp
    · exact ⟨n, h, fun k hk hp => hx ⟨k, hk, hp⟩⟩
theorem pc_pos {s : ByteArray} {k : Nat} (hk : k ≤ s.size) : 0 < (pc s k).length := by
  by_cases h : dot s k < s.size
  · rw [pc_hit hk h]; simp
  · rw [pc_miss hk h]; simp
theorem splitL_pc {s : ByteArray} : Go.En.splitL s dotB = pc s 0 := by
  unfold Go.En.splitL pc
  have e : s.extract 0 s.size = s := by simp
  rw [e]
/-- Two dots, and no more. -/
theorem split_three {s : ByteArray} : (Go.En.splitL s dotB).length = 3 ↔ dot s 0 < s.size ∧ dot s (dot s 0 + 1) < s.size ∧ ¬ dot s (dot s (dot s 0 + 1) + 1) < s.size := by
  rw [splitL_pc]
  by_cases h0 : dot s 0 < s.size
  · rw [pc_hit (by omega) h0]
    by_cases h1 : dot s (dot s 0 + 1) < s.size
    · rw [pc_hit (by omega) h1]
      by_cases h2 : dot s (dot s (dot s 0 + 1) + 1) < s.size
      · have := pc_pos (s := s) (k := dot s (dot s (dot s 0 + 1) + 1) + 1) (by omega)
        rw [pc_hit (by omega) h2]
        simp only [List.length_cons]
        exact ⟨fun e => by omega, fun e => absurd h2 e.2.2⟩
      · rw [pc_miss (by omega) h2]; simp [h0, h1, h2]
    · rw [pc_miss (by omega) h1]; simp [h1]
  · rw [pc_miss (by omega) h0]; simp [h0]
theorem split_parts {s : ByteArray} (h : dot s 0 < s.size ∧ dot s (dot s 0 + 1) < s.size ∧ ¬ dot s (dot s (dot s 0 + 1) + 1) < s.size) : Go.En.splitL s dotB = [s.extract 0 (dot s 0), s.extract (dot s 0 + 1) (dot s (dot s 0 + 1)), s.extract (dot s (dot s 0 + 1) + 1) (dot s (dot s (dot s 0 + 1) + 1))] := by
  obtain ⟨h0, h1, h2⟩ := h
  rw [splitL_pc, pc_hit (by omega) h0, pc_hit (by omega) h1, pc_miss (by omega) h2]
  have := dot_le (s := s) (k := dot s (dot s 0 + 1) + 1) (by omega)
  rw [show dot s (dot s (dot s 0 + 1) + 1) = s.size by omega]
/-- Whether a text has another one in it. -/
theorem contains_iff {s t : List UInt8} : Go.Lib.contains s t = true ↔ ∃ i, i + t.length ≤ s.length ∧ (s.drop i).take t.length = t := by
  have key : Go.Lib.contains s t = true ↔ ∃ i, i ≤ s.length ∧ Go.Lib.occAt s t i = true := by
    unfold Go.Lib.contains
    constructor
    · intro h
      have hge : 0 ≤ Go.Lib.index s t := by simpa using h
      by_cases hx : ∃ i, i ≤ s.length ∧ Go.Lib.occAt s t i = true
      · exact hx
      · have := Go.Lib.index_none (s := s) (sub := t) (fun j hj => by
          cases hb : Go.Lib.occAt s t j with
          | false => rfl
          | true => exact absurd ⟨j, hj, hb⟩ hx)
        omega
    · rintro ⟨i, hi, ho⟩
      obtain ⟨j, ⟨hj, hjo⟩, hmin⟩ := least (p := fun j => j ≤ s.length ∧ Go.Lib.occAt s t j = true) i ⟨hi, ho⟩
      have := Go.Lib.index_first hj hjo (fun k hk => by
        cases hb : Go.Lib.occAt s t k with
        | false => rfl
        | true => exact absurd ⟨by omega, hb⟩ (hmin k hk))
      rw [this]; simp
  rw [key]
  constructor
  · rintro ⟨i, hi, ho⟩
    unfold Go.Lib.occAt at ho
    have hp := List.isPrefixOf_iff_prefix.1 ho
    have hl := hp.length_le
    rw [List.length_drop] at hl
    exact ⟨i, by omega, (List.prefix_iff_eq_take.1 hp).symm⟩
  · rintro ⟨i, hi, ho⟩
    refine ⟨i, by omega, ?_⟩
    unfold Go.Lib.occAt
    rw [List.isPrefixOf_iff_prefix, List.prefix_iff_eq_take]
    exact ho.symm
end Go.Sg
end
section
namespace Go.En
open Go Go.Fl Go.Fl.Lk Go.Fx Go.Sg
theorem size0 {s : ByteArray} : s = ByteArray.mk (Array.mk []) ↔ s.size = 0 := by
  constructor
  · rintro rfl; rfl
  · intro h; exact ByteArray.ext (Array.eq_empty_of_size_eq_zero h)
theorem get_of {s : ByteArray} {i : Int} (h0 : 0 ≤ i) (h1 : i < s.size) {b : UInt8} (hb : s[i.toNat]? = some b) : b = s.get! i.toNat := by
  rw [get_iff, get!_of (by omega)] at hb
  cases hb; rfl
theorem utf8_ok {s : ByteArray} {K : Bool → Prop} (hs : s.size ≤ 1000) (h : K (Go.Lib.validD (bts s))) : P_utf8_ValidString s K := ⟨by omega, h⟩
theorem badP : RuneP fun n => n < 32 ∨ n = 127 := ⟨fun n h => by omega⟩
theorem vld_no {s : ByteArray} (h : 200 < s.size ∨ Go.Lib.validD (bts s) = false ∨ ∃ c ∈ bts s, c.toNat < 32 ∨ c.toNat = 127) : vld s = false := by
  unfold vld
  rcases h with h | h | ⟨c, hc, h⟩
  · rw [decide_eq_false (by omega)]; rfl
  · rw [h]; simp
  · have : (bts s).all good = false := by
      rw [List.all_eq_false]
      refine ⟨c, hc, ?_⟩
      unfold good
      simp only [Bool.and_eq_true, decide_eq_true_eq]
      omega
    rw [this]; simp
theorem vld_yes {s : ByteArray} (h1 : ¬ 200 < s.size) (h2 : Go.Lib.validD (bts s) = true) (h3 : ∀ c ∈ bts s, ¬ (c.toNat < 32 ∨ c.toNat = 127)) : vld s = true := by
  unfold vld
  rw [h2, decide_eq_true (show s.size ≤ 200 by omega)]
  simp only [Bool.and_true, Bool.true_and, List.all_eq_true]
  intro c hc
  have := h3 c hc
  unfold good
  simp only [Bool.and_eq_true, decide_eq_true_eq]
  omega
theorem r1_Valid_eq {s : ByteArray} {K : Bool → Prop} (h : K (vld s)) : P_r1_Valid s K := by
  unfold P_r1_Valid S_r1_Valid
  refine Cnd.mk (fun h1 => by rwa [vld_no (.inl (by omega))] at h) fun h1 => utf8_ok (by omega) (Cnd.mk (fun h2 => ?_) fun h2 => by rwa [vld_no (.inr (.inl (by simpa using h2)))] at h)
  refine Lp1.ind (fun (i : Int) => 0 ≤ i ∧ Clr (fun n => n < 32 ∨ n = 127) s i.toNat) (fun (i : Int) => (s.size - i).toNat) ?_ ⟨by omega, Clr.zero⟩
  rintro i ⟨i0, hc⟩
  refine Cnd.mk (fun h3 => ⟨by omega, fun b hb => ?_⟩) fun h3 => by rwa [vld_yes (by omega) h2 (hc.all (by omega))] at h
  have e := get_of i0 (by omega) hb
  have hm : b ∈ bts s := e ▸ hit_mem (by omega)
  refine Cnd.mk (fun h4 => by rwa [vld_no (.inr (.inr ⟨b, hm, .inl (by omega)⟩))] at h) fun h4 => ⟨by omega, fun b' hb' => ?_⟩
  rw [hb] at hb'; cases hb'
  refine Cnd.mk (fun h5 => by rwa [vld_no (.inr (.inr ⟨b, hm, .inr (by omega)⟩))] at h) fun h5 => ⟨by unfold InI; omega, ⟨by omega, fun j hj hs => ?_⟩, by omega⟩
  by_cases hji : j < i.toNat
  · exact hc j hji hs
  · rw [show j = i.toNat by omega, ← e]; omega
theorem wrap_digit {b : UInt8} (h : isD b = true) : Go.IntKind.u8.wrap ((b.toNat : Int) - 48) = ((b.toNat - 48 : Nat) : Int) := by
  simp only [isD, Bool.and_eq_true, decide_eq_true_eq] at h
  have : (b.toNat : Int) - 48 = ((b.toNat - 48 : Nat) : Int) := by omega
  rw [this]
  show ((b.toNat - 48 : Nat) : Int) % 256 = _
  omega
theorem digP : RuneP fun n => n < 48 ∨ 57 < n := ⟨fun n h => by omega⟩
theorem all_isD {l : List UInt8} : l.all isD = true ↔ ∀ c ∈ l, ¬ (c.toNat < 48 ∨ 57 < c.toNat) := by
  rw [List.all_eq_true]
  constructor
  · intro h c hc; have := h c hc; simp only [isD, Bool.and_eq_true, decide_eq_true_eq] at this; omega
  · intro h c hc; have := h c hc; simp only [isD, Bool.and_eq_true, decide_eq_true_eq]; omega
theorem not_all_isD {l : List UInt8} {c : UInt8} (hc : c ∈ l) (h : c.toNat < 48 ∨ 57 < c.toNat) : l.all isD = false := by
  rw [Bool.eq_false_iff]; intro e; exact all_isD.1 e c hc h
theorem take_snoc {l : List UInt8} {i : Nat} {b : UInt8} (h : l[i]? = some b) : l.take (i + 1) = l.take i ++ [b] := by rw [List.take_add_one, h]; rfl
theorem pnum_bad {s : ByteArray} (h : (bts (digs s)).all isD = false) : pnum s = (0, 1) := by unfold pnum; rw [if_pos h]
theorem pnum_zero {s : ByteArray} (h : (bts (digs s)).all isD = true) (h0 : (digs s).size = 0 ∨ ((digs s)[0]? = some 48 ∧ s ≠ ByteArray.mk (Array.mk [48]))) : pnum s = (0, 1) := by unfold pnum; rw [if_neg (by simp [h]), if_pos h0]
theorem pnum_big {s : ByteArray} (h : (bts (digs s)).all isD = true) (h0 : ¬ ((digs s).size = 0 ∨ ((digs s)[0]? = some 48 ∧ s ≠ ByteArray.mk (Array.mk [48])))) (h1 : 1099511627776 < valD 0 (bts (digs s))) : pnum s = (0, 3) := by unfold pnum; rw [if_neg (by simp [h]), if_neg h0, if_pos h1]
theorem pnum_val {s : ByteArray} (h : (bts (digs s)).all isD = true) (h0 : ¬ ((digs s).size = 0 ∨ ((digs s)[0]? = some 48 ∧ s ≠ ByteArray.mk (Array.mk [48])))) (h1 : ¬ 1099511627776 < valD 0 (bts (digs s))) : pnum s = (if (digs s).size < s.size then -(valD 0 (bts (digs s)) : Int) else valD 0 (bts (digs s)), 0) := by unfold pnum; rw [if_neg (by simp [h]), if_neg h0, if_neg h1]
/-- More than thirteen digits are too many. -/
theorem many_digits {s : ByteArray} (h : (bts (digs s)).all isD = true) (h0 : ¬ ((digs s).size = 0 ∨ ((digs s)[0]? = some 48 ∧ s ≠ ByteArray.mk (Array.mk [48])))) (hl : 13 < (digs s).size) : 1099511627776 < valD 0 (bts (digs s)) := by
  have hs : s ≠ ByteArray.mk (Array.mk [48]) := by
    rintro rfl
    revert hl; decide
  cases hb : bts (digs s) with
  | nil => have := bts_len (digs s); rw [hb] at this; simp at this; omega
  | cons c l =>
    have hc : (digs s)[0]? = some c := by rw [get_iff, hb]; rfl
    have hc0 : c ≠ 48 := fun e => h0 (.inr ⟨e ▸ hc, hs⟩)
    have hd : isD c = true := by rw [hb, List.all_cons, Bool.and_eq_true] at h; exact h.1
    simp only [isD, Bool.and_eq_true, decide_eq_true_eq] at hd
    have hne : c.toNat ≠ 48 := fun e => hc0 (by rw [← UInt8.toNat_inj]; exact e)
    have hlen : 13 ≤ l.length := by have := bts_len (digs s); rw [hb] at this; simp at this; omega
    rw [valD_cons]
    have h1 := valD_ge l (stepD 0 c)
    have h2 : 10 ^ 13 ≤ 10 ^ l.length := Nat.pow_le_pow_right (by decide) hlen
    have h3 : 1 * 10 ^ l.length ≤ stepD 0 c * 10 ^ l.length := Nat.mul_le_mul_right _ (by unfold stepD; omega)
    omega
theorem dsz {s : ByteArray} : (digs s).size ≤ s.size := by
  unfold digs
  split
  · rw [ByteArray.size_extract]; omega
  · omega
theorem r1_ParseNumber_eq {s : ByteArray} {K : Int → Int → Prop} (hs : s.size ≤ 1000000000) (h : K (pnum s).1 (pnum s).2) : P_r1_ParseNumber s K := by
  unfold P_r1_ParseNumber
  refine Jn1.mk (fun d => d = digs s) ?_ fun d hd => ?_
  · refine Cnd.mk (fun h0 => ⟨by omega, fun b hb => Cnd.mk (fun h1 => ⟨by omega, ?_⟩) fun h1 => ?_⟩) fun h0 => ?_
    · have : b = 45 := by rw [← UInt8.toNat_inj]; show b.toNat = 45; omega
      unfold digs; rw [if_pos (by rw [← this]; exact hb)]; congr 1
    · rw [digs_none]; intro e; rw [show Int.toNat 0 = 0 from rfl] at hb; rw [hb] at e; cases e; exact h1 rfl
    · rw [digs_none]; intro e; have := (List.getElem?_eq_some_iff.1 (get_iff.1 e)).1; rw [bts_len] at this; omega
  subst hd
  generalize hd : digs s = d at *
  have hz : d.size ≤ s.size := hd ▸ dsz
  refine Lp1.ind (fun (i : Int) => 0 ≤ i ∧ i ≤ d.size ∧ Clr (fun n => n < 48 ∨ 57 < n) d i.toNat) (fun (i : Int) => (d.size - i).toNat) ?_ ⟨by omega, by omega, Clr.zero⟩
  rintro i ⟨i0, i1, hc⟩
  refine Cnd.mk (fun h3 => ⟨by omega, fun b hb => ?_⟩) fun h3 => ?_
  · have e := get_of i0 (by omega) hb
    have hm : b ∈ bts d := e ▸ hit_mem (by omega)
    refine Cnd.mk (fun h4 => ?_) fun h4 => ⟨by omega, fun b' hb' => ?_⟩
    · rwa [pnum_bad (by rw [hd]; exact not_all_isD hm (.inl (by omega)))] at h
    rw [hb] at hb'; cases hb'
    refine Cnd.mk (fun h5 => ?_) fun h5 => ⟨by unfold InI; omega, ⟨by omega, by omega, fun j hj hs => ?_⟩, by omega⟩
    · rwa [pnum_bad (by rw [hd]; exact not_all_isD hm (.inr (by omega)))] at h
    by_cases hji : j < i.toNat
    · exact hc j hji hs
    · rw [show j = i.toNat by omega, ← e]; omega
  have hall : (bts d).all isD = true := all_isD.2 (hc.all (by omega))
  have hall' : (bts (digs s)).all isD = true := by rw [hd]; exact hall
  have fin : ¬ ((digs s).size = 0 ∨ ((digs s)[0]? = some 48 ∧ s ≠ ByteArray.mk (Array.mk [48]))) → ¬ 13 < d.size → Lp2 (fun (x4_0 x4_1 : Int) Y4_2 => Cnd (x4_1 < (↑d.size : Int)) (InI ((10 : Int) * x4_0) ∧ ((0 : Int) ≤ x4_1 ∧ x4_1 < (↑d.size : Int)) ∧ ∀ b5, d[x4_1.toNat]? = some b5 → InI (Go.IntKind.u8.wrap ((↑b5.toNat : Int) - (48 : Int))) ∧ InI ((10 : Int) * x4_0 + Go.IntKind.u8.wrap ((↑b5.toNat : Int) - (48 : Int))) ∧ InI (x4_1 + (1 : Int)) ∧ Y4_2 ((10 : Int) * x4_0 + Go.IntKind.u8.wrap ((↑b5.toNat : Int) - (48 : Int))) (x4_1 + (1 : Int))) (Cnd ((1099511627776 : Int) < x4_0) (K (0 : Int) (3 : Int)) (Cnd ((↑d.size : Int) < (↑s.size : Int)) (InI ((0 : Int) - x4_0) ∧ K ((0 : Int) - x4_0) (0 : Int)) (K x4_0 (0 : Int))))) (0 : Int) (0 : Int) := fun hg h13 => by
    refine Lp2.ind (fun (n j : Int) => 0 ≤ j ∧ j ≤ d.size ∧ n = (valD 0 ((bts d).take j.toNat) : Int)) (fun _ (j : Int) => (d.size - j).toNat) ?_ ⟨by omega, by omega, by simp [valD]⟩
    rintro n j ⟨j0, j1, rfl⟩
    have hb1 : valD 0 ((bts d).take j.toNat) < 1 * 10 ^ 13 := by
      have h1 := valD_le ((bts d).take j.toNat) 0 (by rw [List.all_eq_true] at hall ⊢; exact fun c hc => hall c (List.mem_of_mem_take hc))
      have h2 : ((bts d).take j.toNat).length ≤ 13 := by rw [List.length_take, bts_len]; omega
      have h3 : 10 ^ ((bts d).take j.toNat).length ≤ 10 ^ 13 := Nat.pow_le_pow_right (by decide) h2
      omega
    refine Cnd.mk (fun hc => ⟨by unfold InI; omega, by omega, fun b hb => ?_⟩) fun hc => ?_
    · have hm : b ∈ bts d := List.mem_of_getElem? (get_iff.1 hb)
      have hdg : isD b = true := by rw [List.all_eq_true] at hall; exact hall b hm
      have hdg' := hdg
      simp only [isD, Bool.and_eq_true, decide_eq_true_eq] at hdg'
      rw [wrap_digit hdg]
      refine ⟨by unfold InI; omega, by unfold InI; omega, by unfold InI; omega, ⟨by omega, by omega, ?_⟩, by omega⟩
      rw [show (j + 1).toNat = j.toNat + 1 by omega, take_snoc (get_iff.1 hb), valD_snoc]
      unfold stepD; push_cast; omega
    · have ht : (bts d).take j.toNat = bts d := List.take_of_length_le (by rw [bts_len]; omega)
      rw [ht] at hb1 ⊢
      refine Cnd.mk (fun h1 => ?_) fun h1 => ?_
      · rwa [pnum_big hall' hg (by rw [hd]; omega)] at h
      · rw [pnum_val hall' hg (by rw [hd]; omega), hd] at h
        refine Cnd.mk (fun h2 => ⟨by unfold InI; omega, ?_⟩) fun h2 => ?_
        · rw [if_pos (by omega)] at h; rwa [Int.zero_sub]
        · rwa [if_neg (by omega)] at h
  have gone : ∀ {b : UInt8}, d[0]? = some b → (b ≠ 48 ∨ s = ByteArray.mk (Array.mk [48])) → d.size ≠ 0 → ¬ ((digs s).size = 0 ∨ ((digs s)[0]? = some 48 ∧ s ≠ ByteArray.mk (Array.mk [48]))) := by
    rw [hd]
    rintro b hb h1 h2 (h3 | ⟨h3, h4⟩)
    · exact h2 h3
    · rw [hb] at h3; cases h3; rcases h1 with h1 | h1
      · exact h1 rfl
      · exact h4 h1
  refine Cnd.mk (fun h4 => ?_) fun h4 => ?_
  · rwa [pnum_zero hall' (.inl (by rw [hd]; exact size0.1 h4))] at h
  have h5 : d.size ≠ 0 := fun e => h4 (size0.2 e)
  refine ⟨by omega, fun b hb => ?_⟩
  have hb : d[0]? = some b := hb
  refine Cnd.mk (fun h6 => ?_) fun h6 => ?_
  · have h6 : b = 48 := by rw [← UInt8.toNat_inj]; show b.toNat = 48; omega
    refine Cnd.mk (fun h7 => ?_) fun h7 => ?_
    · refine Cnd.mk (fun h8 => ?_) fun h8 => fin (gone hb (.inr h7) h5) (by omega)
      rwa [pnum_big hall' (gone hb (.inr h7) h5) (many_digits hall' (gone hb (.inr h7) h5) (by rw [hd]; omega))] at h
    · rwa [pnum_zero hall' (.inr ⟨by rw [hd, hb, h6], h7⟩)] at h
  · have hg := gone hb (.inl fun e => h6 (by rw [e]; rfl)) h5
    refine Cnd.mk (fun h8 => ?_) fun h8 => fin hg (by omega)
    rwa [pnum_big hall' hg (many_digits hall' hg (by rw [hd]; omega))] at h
/-- Where the document's reading of a version stands. -/
inductive PtS (s : ByteArray) : Int → Int → Int → Int → Int → Prop
  | s0 {o0 o1 o2 : Int} : PtS s 0 0 o0 o1 o2
  | s1 {o1 o2 : Int} (h0 : dot s 0 < s.size ∧ okp (vpart s 0) = true) : PtS s ((dot s 0 + 1 : Nat) : Int) 1 (vpart s 0).1 o1 o2
  | s2 {o2 : Int} (h0 : dot s 0 < s.size ∧ okp (vpart s 0) = true) (h1 : dot s (dot s 0 + 1) < s.size ∧ okp (vpart s (dot s 0 + 1)) = true) : PtS s ((dot s (dot s 0 + 1) + 1 : Nat) : Int) 2 (vpart s 0).1 (vpart s (dot s 0 + 1)).1 o2
  | s3 {a : Int} (h : isVer s) : PtS s a 3 (vpart s 0).1 (vpart s (dot s 0 + 1)).1 (vpart s (dot s (dot s 0 + 1) + 1)).1
theorem okp_no {p : Int × Int} (h : ¬ p.2 = 0 ∨ p.1 < 0 ∨ 999999 < p.1) : okp p = false := by
  unfold okp
  rw [Bool.eq_false_iff]
  simp only [ne_eq, Bool.and_eq_true, decide_eq_true_eq]
  omega
theorem okp_yes {p : Int × Int} (h0 : p.2 = 0) (h1 : ¬ p.1 < 0) (h2 : ¬ 999999 < p.1) : okp p = true := by
  unfold okp
  simp only [Bool.and_eq_true, decide_eq_true_eq]
  omega
theorem PtS.le {s : ByteArray} {a i o0 o1 o2 : Int} (h : PtS s a i o0 o1 o2) (hi : i < 3) : 0 ≤ a ∧ a ≤ s.size := by
  cases h with
  | s0 => omega
  | s1 h0 => omega
  | s2 h0 h1 => omega
  | s3 => omega
theorem PtS.no {s : ByteArray} {a i o0 o1 o2 : Int} (h : PtS s a i o0 o1 o2) (hi : i < 3) (hb : okp (vpart s a.toNat) = false ∨ (i < 2 ∧ ¬ dot s a.toNat < s.size) ∨ (i = 2 ∧ dot s a.toNat < s.size)) : ¬ isVer s := by
  rintro ⟨⟨v1, v2⟩, ⟨v3, v4⟩, v5, v6⟩
  cases h with
  | s0 =>
    simp only [Int.toNat_zero] at hb
    rcases hb with hb | hb | hb
    · rw [hb] at v2; cases v2
    · exact hb.2 v1
    · omega
  | s1 h0 =>
    simp only [Int.toNat_natCast] at hb
    rcases hb with hb | hb | hb
    · rw [hb] at v4; cases v4
    · exact hb.2 v3
    · omega
  | s2 h0 h1 =>
    simp only [Int.toNat_natCast] at hb
    rcases hb with hb | hb | hb
    · rw [hb] at v6; cases v6
    · omega
    · exact v5 hb.2
  | s3 => omega
theorem r3_parts_eq {s : ByteArray} {K : A3 → Bool → Prop} (hs : s.size ≤ 1000000000) (h : K (prt s).1 (prt s).2) : P_r3_parts s K := by
  unfold P_r3_parts S_r3_parts
  have no : ¬ isVer s → K (0, 0, 0) false := fun hn => by rwa [prt_no hn] at h
  refine LpH.ind (fun x => PtS s x.1 x.2.1 x.2.2.1 x.2.2.2.1 x.2.2.2.2.1) (fun x => (3 - x.2.1).toNat) ?_ .s0
  rintro ⟨a, i, o0, o1, o2, x⟩ hp
  simp only at hp ⊢
  refine Cnd.mk (fun hc => ?_) fun hc => ?_
  · obtain ⟨a0, a1⟩ := hp.le hc
    refine Lp1.ind (fun (j : Int) => a ≤ j ∧ j ≤ s.size ∧ ∀ m : Nat, a.toNat ≤ m → (m : Int) < j → s[m]? ≠ some 46) (fun (j : Int) => (s.size - j).toNat) ?_ ⟨by omega, by omega, fun m h1 h2 => by omega⟩
    rintro j ⟨j0, j1, jn⟩
    have stop : ∀ hj : dot s a.toNat = j.toNat, (0 ≤ a ∧ a ≤ j ∧ j ≤ (s.size : Int)) ∧ P_r1_ParseNumber (s.extract a.toNat j.toNat) fun x2_0 x2_1 => Cnd (x2_1 = 0) (Cnd (x2_0 < 0) (K (0, 0, 0) false) (Cnd (999999 < x2_0) (K (0, 0, 0) false) (Cnd (decide (i < 2) = decide (j < (s.size : Int))) ((0 ≤ i ∧ i < ((3 : Nat) : Int)) ∧ ((True ∧ (i = 0 → InI (j + 1) ∧ InI (i + 1) ∧ (PtS s (j + 1) (i + 1) x2_0 o1 o2 ∧ (3 - (i + 1)).toNat < (3 - i).toNat))) ∧ (i = 1 → InI (j + 1) ∧ InI (i + 1) ∧ (PtS s (j + 1) (i + 1) o0 x2_0 o2 ∧ (3 - (i + 1)).toNat < (3 - i).toNat))) ∧ (i = 2 → InI (j + 1) ∧ InI (i + 1) ∧ (PtS s (j + 1) (i + 1) o0 o1 x2_0 ∧ (3 - (i + 1)).toNat < (3 - i).toNat))) (K (0, 0, 0) false)))) (K (0, 0, 0) false) := fun hj => by
      refine ⟨by omega, r1_ParseNumber_eq (by rw [ByteArray.size_extract]; omega) ?_⟩
      have ev : vpart s a.toNat = pnum (s.extract a.toNat j.toNat) := by unfold vpart; rw [hj]
      rw [← ev]
      refine Cnd.mk (fun h1 => Cnd.mk (fun h2 => no (hp.no hc (.inl (okp_no (by omega))))) fun h2 => Cnd.mk (fun h3 => no (hp.no hc (.inl (okp_no (by omega))))) fun h3 => Cnd.mk (fun h4 => ?_) fun h4 => no (hp.no hc ?_)) fun h1 => no (hp.no hc (.inl (okp_no (by omega))))
      · have ok := okp_yes h1 h2 h3
        have h4 : i < 2 ↔ j < (s.size : Int) := by simpa using h4
        have ej : j + 1 = ((dot s a.toNat + 1 : Nat) : Int) := by omega
        have hin : InI (j + 1) := by unfold InI; omega
        have i0 : 0 ≤ i := by cases hp <;> omega
        have hin2 : InI (i + 1) := by unfold InI; omega
        cases hp with
        | s0 =>
          refine ⟨by omega, ⟨⟨trivial, fun _ => ⟨hin, hin2, ?_, by omega⟩⟩, fun e => by omega⟩, fun e => by omega⟩
          rw [ej]; exact .s1 ⟨by simp only [Int.toNat_zero] at hj ⊢; omega, ok⟩
        | s1 h0 =>
          refine ⟨by omega, ⟨⟨trivial, fun e => by omega⟩, fun _ => ⟨hin, hin2, ?_, by omega⟩⟩, fun e => by omega⟩
          rw [ej]; simp only [Int.toNat_natCast] at hj ok ⊢; exact .s2 h0 ⟨by omega, ok⟩
        | s2 h0 h1' =>
          refine ⟨by omega, ⟨⟨trivial, fun e => by omega⟩, fun e => by omega⟩, fun _ => ⟨hin, hin2, ?_, by omega⟩⟩
          simp only [Int.toNat_natCast] at hj ok ⊢; exact .s3 ⟨h0, h1', by omega, ok⟩
        | s3 => omega
      · have h4 : ¬ (i < 2 ↔ j < (s.size : Int)) := by simpa using h4
        have i0 : 0 ≤ i := by cases hp <;> omega
        rw [hj]
        by_cases h5 : i < 2
        · exact .inr (.inl ⟨h5, fun h6 => h4 ⟨fun _ => by omega, fun _ => h5⟩⟩)
        · refine .inr (.inr ⟨by omega, ?_⟩)
          by_cases h6 : j.toNat < s.size
          · exact h6
          · exact absurd ⟨fun h7 => absurd h7 h5, fun h7 => by omega⟩ h4
    refine Cnd.mk (fun hl => ⟨by omega, fun b hb => Cnd.mk (fun hd => ?_) fun hd => ⟨by unfold InI; omega, ⟨by omega, by omega, fun m h1 h2 => ?_⟩, by omega⟩⟩) fun hl => ?_
    · have hb46 : b = 46 := by rw [← UInt8.toNat_inj]; show b.toNat = 46; omega
      exact stop (dot_is (by omega) (hb46 ▸ hb) fun m h1 h2 => jn m h1 (by omega))
    · by_cases hm : (m : Int) < j
      · exact jn m h1 hm
      · rw [show m = j.toNat by omega, hb]; intro e; cases e; exact hd rfl
    · exact stop ((dot_end (by omega) fun m h1 h2 => jn m h1 (by omega)).trans (by omega))
  · cases hp with
    | s0 => omega
    | s1 => omega
    | s2 => omega
    | s3 hv => rwa [prt_yes hv] at h
end Go.En
end
