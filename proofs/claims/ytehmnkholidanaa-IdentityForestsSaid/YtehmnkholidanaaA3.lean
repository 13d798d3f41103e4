/- What a call answers, and that it leaves the memory that was there as it was: flagstone/identity.Members. Conditions: those of each statement (that the arguments can be read). -/
import Derived.Test.YtehmnkholidanaaRows
import Derived.Test.YtehmnkholidanaaFlSort
import Derived.Test.YtehmnkholidanaaShelf
import Derived.KernelRfl
import Derived.Test.YtehmnkholidanaaA2
namespace Go.Proofs.Ytehmnkholidanaa
open Go Go.RowKit Go.Fl

theorem c_Members {σ : Hv} {w : World} (v : Value) (l : List Lk.L3) (x : ByteArray) (hlen : l.length ≤ 1000) (hV : View σ w) (hv : RSl 3 (REnc encLk) σ v l) :
    Calls Try.prog 18 #[v, (.string x)] w fun e w1 => ∃ (v1 : Value) (ys : List ByteArray) (σ1 : Hv), e = .returned v1 ∧ Grow [] σ w σ1 w1 ∧ RSl 1 (REnc encTx) σ1 v1 ys ∧ Lk.IsMem l x ys := by
  refine enter Try.func18 rfl rfl rfl ?_
  obtain ⟨a, cap, rfl, h1, h2, hel⟩ := hv
  have hS := St.start hV
  refine seq_reg ?_
  refine o_assign (v := (.slice none 0 0)) rfl ?_
  refine wpList_nil ?_
  refine then_n ?_
  refine seq_reg ?_
  refine o_move (v := (.slice a l.length cap)) rfl ?_
  refine o_call (args := [(.slice a l.length cap)]) rfl Try.call31 (Calls.mono (c_of _ l hS.view ⟨a, cap, rfl, h1, h2, hel⟩) ?_)
  rintro _ w1 ⟨b1, F1, rfl, hgd1, hg1, ho1⟩
  refine ⟨_, rfl, ?_⟩
  have hS1 := hS.growAdd hg1 ho1
  refine o_assign (v := (.map (some b1))) rfl ?_
  refine wpList_nil ?_
  refine then_n ?_
  refine seq_reg ?_
  refine o_move (v := (.map (some b1))) rfl ?_
  refine o_move (v := (.string x)) rfl ?_
  refine o_call (args := [(.map (some b1)), (.string x)]) rfl Try.call32 (Calls.mono (c_root _ _ l x hgd1 hS1.view (hS1.get (i := 0) rfl) (hS1.off _ (List.mem_of_getElem? (i := 0) rfl) _ rfl)) ?_)
  rintro _ w2 ⟨r1, rfl, hrc1, hrn1, hg2, ho2⟩
  refine ⟨_, rfl, ?_⟩
  have hS2 := hS1.growM hg2 (i := 0) (o' := emap b1 (fun y : ByteArray => Value.string y) F1) rfl rfl rfl ho2 rfl
  refine o_assign (v := (.string r1)) rfl ?_
  refine wpList_nil ?_
  refine then_n ?_
  refine seq_reg ?_
  refine o_move (v := (.string x)) rfl ?_
  refine o_bslice (cs := [(.string x)]) (e := 9) hS2 (fun _ => by kernel_rfl) ?_
  intro b2 w3 hS3
  refine o_assign (v := (.slice (some ⟨b2, 0, none⟩) 1 1)) rfl ?_
  refine wpList_nil ?_
  refine then_n ?_
  refine wp_seq ?_
  refine seq_reg ?_
  refine o_move (v := (.slice a l.length cap)) rfl ?_
  refine o_len_slice rfl Try.underlying24 ?_
  refine o_move (v := (.int .i64 (0 : Int))) rfl ?_
  refine wpList_nil ?_
  refine then_n ?_
  refine wp_block ?_
  have hS4 := hS3.asVec (i := 0) (ms' := [vec (.slice (some ⟨b2, 0, none⟩) 1 1) 9 1 1 (([x]).flatMap encTx), emap b1 (fun y : ByteArray => Value.string y) F1]) (size := 1) rfl rfl (by unfold maxLen; omega) rfl
  refine loop (fun m f z => ∃ (k : Nat) (v1 : Value) (l1 : List ByteArray) (g : Fr), m = l.length - k ∧ f = (upd (upd (upd (upd (upd (upd g 5 (.map (some b1))) 6 (.string r1)) 7 v1) 19 (.slice a l.length cap)) 20 (.int .i64 ((l.length : Nat) : Int))) 21 (.int .i64 ((k : Nat) : Int))) ∧ St ⟨w, σ, []⟩ z σ [vec v1 9 1 l1.length ((l1).flatMap encTx), emap b1 (fun y : ByteArray => Value.string y) F1] ∧ (k ≤ l.length) ∧ (v1.oneCell' = true) ∧ (∀ y, y ∈ l1 ↔ y = x ∨ (y ∈ Lk.ids (l.take k) ∧ Lk.Conn l x y)) ∧ (l1.length ≤ 1 + 2 * k)) (m0 := _) ⟨0, _, [x], _, rfl, (upd_in rfl (upd_in rfl (upd_in rfl (upd_in rfl (upd_in rfl (upd_in rfl rfl)))))), hS4, Nat.zero_le _, rfl, by simp [Lk.ids], by simp⟩ ?_
  rintro _ _ w4 ⟨k, v1, l1, g, rfl, rfl, hS5, hk, hone, hm, hll⟩
  refine seq_reg ?_
  refine o_lss (r := (decide (((k : Nat) : Int) < ((l.length : Nat) : Int)))) rfl rfl rfl ?_
  refine wpList_nil ?_
  refine then_n ?_
  refine wp_seq ?_
  refine if_d (((k : Nat) : Int) < ((l.length : Nat) : Int)) rfl (fun ht1 => ?_) (fun ht1 => ?_)
  · refine wp_skip ?_
    refine then_n ?_
    refine wp_seq ?_
    refine wp_block ?_
    refine seq_reg ?_
    obtain ⟨x1, hx1⟩ := getq (l := l) (k := k) (by omega)
    obtain ⟨ad1, cs1, ha1, hl1, hr1, hR1⟩ := hel k _ hx1
    cases hR1
    refine o_iaddr_slice (k := k) (a' := (ad1.add (k * 3))) (congrArg (fun z => Value.slice z _ _) ha1) rfl (by omega) (lt_of_getq hx1) Try.underlying24 Try.sizeOf28 rfl ?_
    refine o_loadA (cs := [(.string x1.1), (.string x1.2.1), (.int .i64 x1.2.2)]) rfl Try.isAgg28 Try.sizeOf28 rfl (hr1.row hS5.view) ?_
    refine o_alloc (cs := [(.string ⟨#[]⟩), (.string ⟨#[]⟩), (.int .i64 (0 : Int))]) hS5 Try.zeroValue28 rfl ?_
    intro b3 w5 hS6
    refine o_store (T := 28) (vs := [(.string x1.1), (.string x1.2.1), (.int .i64 x1.2.2)]) (cs' := [(.string x1.1), (.string x1.2.1), (.int .i64 x1.2.2)]) (ms' := [blk b3 28 [(.string x1.1), (.string x1.2.1), (.int .i64 x1.2.2)], vec v1 9 1 l1.length ((l1).flatMap encTx), emap b1 (fun y : ByteArray => Value.string y) F1]) (i := 0) hS6 rfl rfl rfl Try.sizeOf28 rfl (ones rfl) rfl (Nat.le_of_ble_eq_true rfl) rfl rfl ?_
    intro w6 hS7
    refine wpList_nil ?_
    refine then_n ?_
    refine seq_reg ?_
    refine o_faddr (a' := ⟨b3, 0, none⟩) rfl Try.underlying28 rfl Try.sizeOf9 rfl ?_
    refine o_load (v := (.string x1.1)) rfl Try.isAgg9 (hS7.cell (i := 0) rfl rfl) ?_
    refine o_faddr (a' := ⟨b3, 1, none⟩) rfl Try.underlying28 rfl Try.sizeOf9 rfl ?_
    refine o_load (v := (.string x1.2.1)) rfl Try.isAgg9 (hS7.cell (i := 0) rfl rfl) ?_
    refine o_bslice (cs := [(.string x1.1), (.string x1.2.1)]) (e := 9) hS7 (fun _ => by kernel_rfl) ?_
    intro b4 w7 hS8
    refine o_len_slice rfl Try.underlying29 ?_
    refine o_move (v := (.int .i64 (0 : Int))) rfl ?_
    refine wpList_nil ?_
    refine then_n ?_
    refine wp_block ?_
    obtain ⟨σ1, hS9, hsub1, hfr1⟩ := hS8.freeze (i := 0) rfl rfl rfl
    obtain ⟨xs2, hxs2⟩ : ∃ xs2 : List ByteArray, xs2 = [x1.1, x1.2.1] := ⟨_, rfl⟩
    have hxl : xs2.length = 2 := by rw [hxs2]; rfl
    obtain ⟨al, capl, hsl, hq1, hq2, hel2⟩ : RSl 1 (REnc encTx) σ1 (.slice (some ⟨b4, 0, none⟩) 2 2) xs2 := RSl.ofBlk encTx_len (vrow_blk (hS8.get (i := 0) rfl) hfr1) (by rw [hxs2]; rfl) hxl (by omega)
    obtain ⟨rfl, _, _⟩ := Value.slice.inj hsl
    refine loop (fun m f z => ∃ (k2 : Nat) (v2 : Value) (l2 : List ByteArray) (g : Fr), m = 2 - k2 ∧ f = (upd (upd (upd (upd (upd (upd (upd (upd (upd g 5 (.map (some b1))) 6 (.string r1)) 7 v2) 19 (.slice a l.length cap)) 20 (.int .i64 ((l.length : Nat) : Int))) 21 (.int .i64 ((k : Nat) : Int))) 29 (.slice (some ⟨b4, 0, none⟩) 2 2)) 30 (.int .i64 (2 : Int))) 31 (.int .i64 ((k2 : Nat) : Int))) ∧ St ⟨w, σ, []⟩ z σ1 [vec v2 9 1 l2.length ((l2).flatMap encTx), emap b1 (fun y : ByteArray => Value.string y) F1] ∧ (k2 ≤ 2) ∧ (v2.oneCell' = true) ∧ (∀ y, y ∈ l2 ↔ y = x ∨ (y ∈ Lk.ids (l.take k) ++ xs2.take k2 ∧ Lk.Conn l x y)) ∧ (l2.length ≤ 1 + 2 * k + k2)) (m0 := _) ⟨0, _, _, _, rfl, (upd_in rfl (upd_in rfl (upd_in rfl (upd_in rfl (upd_in rfl (upd_in rfl (upd_in rfl (upd_in rfl (upd_in rfl rfl))))))))), (hS9.sublist (ms' := [vec v1 9 1 l1.length ((l1).flatMap encTx), emap b1 (fun y : ByteArray => Value.string y) F1]) (by simp)), Nat.zero_le _, hone, by simpa using hm, by omega⟩ ?_
    rintro _ _ w8 ⟨k2, v2, l2, g, rfl, rfl, hS10, hk2, hone2, hm2, hll2⟩
    refine seq_reg ?_
    refine o_lss (r := (decide (((k2 : Nat) : Int) < (2 : Int)))) rfl rfl rfl ?_
    refine wpList_nil ?_
    refine then_n ?_
    refine wp_seq ?_
    refine if_d (((k2 : Nat) : Int) < (2 : Int)) rfl (fun ht2 => ?_) (fun ht2 => ?_)
    · refine wp_skip ?_
      refine then_n ?_
      refine wp_seq ?_
      refine wp_block ?_
      refine seq_reg ?_
      obtain ⟨x2, hx2⟩ := getq (l := xs2) (k := k2) (by omega)
      obtain ⟨ad2, cs2, ha2, hl2, hr2, hR2⟩ := hel2 k2 _ hx2
      cases hR2
      refine o_iaddr_slice (k := k2) (a' := (ad2.add (k2 * 1))) (congrArg (fun z => Value.slice z _ _) ha2) rfl (by omega) (by have := lt_of_getq hx2; omega) Try.underlying29 Try.sizeOf9 rfl ?_
      refine o_load (v := (.string x2)) rfl Try.isAgg9 (hr2.cell hS10.view 0 rfl rfl) ?_
      refine o_assign (v := (.string x2)) rfl ?_
      refine wpList_nil ?_
      refine then_n ?_
      refine seq_reg ?_
      refine o_move (v := (.map (some b1))) rfl ?_
      refine o_move (v := (.string x2)) rfl ?_
      refine o_call (args := [(.map (some b1)), (.string x2)]) rfl Try.call32 (Calls.mono (c_root _ _ l x2 hgd1 hS10.view (hS10.get (i := 1) rfl) (hS10.off _ (List.mem_of_getElem? (i := 1) rfl) _ rfl)) ?_)
      rintro _ w9 ⟨r2, rfl, hrc2, hrn2, hg3, ho3⟩
      refine ⟨_, rfl, ?_⟩
      have hS11 := hS10.growM hg3 (i := 1) (o' := emap b1 (fun y : ByteArray => Value.string y) F1) rfl rfl rfl ho3 rfl
      refine o_move (v := (.string r1)) rfl ?_
      refine o_eqls (r := (decide (r2 = r1))) rfl rfl rfl ?_
      refine wpList_nil ?_
      refine then_n ?_
      refine if_d (r2 = r1) rfl (fun ht3 => ?_) (fun ht3 => ?_)
      · refine one_reg ?_
        refine o_move (v := v2) rfl ?_
        refine o_move (v := (.string x2)) rfl ?_
        refine o_bslice (cs := [(.string x2)]) (e := 9) hS11 (fun _ => by kernel_rfl) ?_
        intro b5 w10 hS12
        refine o_append (Ms := fun v1 => [blk b5 9 [(.string x2)], vec v1 9 1 (l2.length + 1) ((l2 ++ [x2]).flatMap encTx), emap b1 (fun y : ByteArray => Value.string y) F1]) (xs' := (l2 ++ [x2]).flatMap encTx) Try.underlying29 Try.type9 rfl rfl (bytes := 16) rfl rfl (Nat.succ_pos _) hS12 rfl (q := 1) rfl rfl rfl (blk_row (hS12.get (i := 0) rfl)) (ones rfl) (by omega) (by unfold maxLen; omega) (flat_snoc _ x2) (fun _ => rfl) ?_
        intro v1 w11 ho4 hS13
        have hS14 := hS13.drop 0 (ms' := [vec v1 9 1 (l2.length + 1) ((l2 ++ [x2]).flatMap encTx), emap b1 (fun y : ByteArray => Value.string y) F1]) rfl
        refine o_assign (v := v1) rfl ?_
        refine wpList_nil ?_
        refine blk_n ?_
        refine then_n ?_
        refine one_reg ?_
        refine o_add (r := ((k2 + 1 : Nat) : Int)) rfl rfl (nw (by omega) (by omega) (by omega)) ?_
        refine o_move (v := (.int .i64 ((k2 + 1 : Nat) : Int))) rfl ?_
        refine wpList_nil ?_
        refine then_n ?_
        have hcc := ((hgd1.least hrc2 hrn2).conn (hgd1.least hrc1 hrn1))
        have hm' := Lk.mem_step_in hm2 (hcc.1 ht3).symm
        rw [List.append_assoc, ← take_snoc hx2] at hm'
        have hki := lt_of_getq hx2
        exact ⟨_, _, rfl, ⟨k2 + 1, v1, l2 ++ [x2], _, rfl, (upd_in rfl (upd_in rfl (upd_in rfl (upd_in rfl (upd_in rfl (upd_in rfl (upd_in rfl (upd_in rfl (upd_in rfl rfl))))))))), (by simpa using hS14), by omega, ho4, hm', by simp; omega⟩, by omega⟩
      · refine wp_skip ?_
        refine blk_n ?_
        refine then_n ?_
        refine one_reg ?_
        refine o_add (r := ((k2 + 1 : Nat) : Int)) rfl rfl (nw (by omega) (by omega) (by omega)) ?_
        refine o_move (v := (.int .i64 ((k2 + 1 : Nat) : Int))) rfl ?_
        refine wpList_nil ?_
        refine then_n ?_
        have hcc := ((hgd1.least hrc2 hrn2).conn (hgd1.least hrc1 hrn1))
        have hm' := Lk.mem_step_out hm2 (fun hc => ht3 (hcc.2 hc.symm))
        rw [List.append_assoc, ← take_snoc hx2] at hm'
        have hki := lt_of_getq hx2
        exact ⟨_, _, rfl, ⟨k2 + 1, v2, l2, _, rfl, (upd_in rfl (upd_in rfl (upd_in rfl (upd_in rfl (upd_in rfl (upd_in rfl (upd_in rfl (upd_in rfl (upd_in rfl rfl))))))))), hS11, by omega, hone2, hm', by omega⟩, by omega⟩
    · refine wp_exit ?_
      refine then_e ?_
      refine then_e ?_
      refine blk_hit ?_
      refine blk_n ?_
      refine then_n ?_
      refine one_reg ?_
      refine o_add (r := ((k + 1 : Nat) : Int)) rfl rfl (nw (by omega) (by omega) (by omega)) ?_
      refine o_move (v := (.int .i64 ((k + 1 : Nat) : Int))) rfl ?_
      refine wpList_nil ?_
      refine then_n ?_
      have hm' := hm2
      rw [List.take_of_length_le (show xs2.length ≤ k2 by omega), hxs2, ← Lk.ids_snoc, ← take_snoc hx1] at hm'
      have hki := lt_of_getq hx1
      exact ⟨_, _, rfl, ⟨k + 1, v2, l2, _, rfl, (upd_in rfl (upd_in rfl (upd_in rfl (upd_in rfl (upd_in rfl (upd_in rfl rfl)))))), (hS10.less hS5 hsub1), by omega, hone2, hm', by omega⟩, by omega⟩
  · refine wp_exit ?_
    refine then_e ?_
    refine then_e ?_
    refine blk_hit ?_
    refine then_n ?_
    refine seq_reg ?_
    refine o_move (v := v1) rfl ?_
    refine o_call (args := [v1]) rfl Try.call35 (Calls.mono (sort_vec Try.slices_Sort_string Try.slices_Sort_string_none hS5.view (hS5.get (i := 0) rfl) rfl (fun b hb => hS5.off _ (List.mem_of_getElem? (i := 0) rfl) b hb) (by omega)) ?_)
    rintro _ w12 ⟨rfl, hg4, ho5⟩
    refine ⟨_, rfl, ?_⟩
    have hS15 := hS5.growV (i := 0) (o' := vec v1 9 1 l1.length ((srt l1).flatMap encTx)) rfl hg4 rfl ho5 (ms' := [vec v1 9 1 l1.length ((srt l1).flatMap encTx), emap b1 (fun y : ByteArray => Value.string y) F1]) rfl
    refine wpList_nil ?_
    refine then_n ?_
    refine seq_reg ?_
    refine o_move (v := v1) rfl ?_
    refine o_call (args := [v1]) rfl Try.call36 (Calls.mono (compact_vec Try.slices_Compact_string Try.slices_Compact_string_empty hS15.view (hS15.get (i := 0) rfl) (by simp [srt_length]) (fun b hb => hS15.off _ (List.mem_of_getElem? (i := 0) rfl) b hb) (by omega)) ?_)
    rintro _ w13 ⟨v2, rfl, hf1, hg5, ho6⟩
    refine ⟨_, rfl, ?_⟩
    have hS16 := hS15.growV (i := 0) (o' := vec v2 9 1 ((cpt (srt l1)).length) ((cpt (srt l1)).flatMap encTx)) rfl hg5 hf1 ho6 (ms' := [vec v2 9 1 ((cpt (srt l1)).length) ((cpt (srt l1)).flatMap encTx), emap b1 (fun y : ByteArray => Value.string y) F1]) rfl
    refine o_assign (v := v2) rfl ?_
    refine wpList_nil ?_
    refine then_n ?_
    refine wp_ret ?_
    refine ret1 rfl (show ev _ _ _ = v2 from rfl) ?_
    obtain ⟨σ2, hS17, hsub2, hfr2⟩ := hS16.freeze (i := 0) rfl rfl rfl
    rw [List.take_of_length_le (show l.length ≤ k by omega)] at hm
    have hcs := cpt_srt l1
    exact ⟨v2, _, σ2, rfl, hS17.done, RSl.ofVecEnc encTx_len (hS16.get (i := 0) rfl) hfr2 rfl (by have := hcs.2.2.2; omega), Lk.mem_done hm hcs.1 hcs.2.1⟩


end Go.Proofs.Ytehmnkholidanaa
