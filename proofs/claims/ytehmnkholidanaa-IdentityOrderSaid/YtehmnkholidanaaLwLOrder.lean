/- A call does what its plain meaning says, and leaves the memory that was there as it was: law26_IdentityOrder. -/
import Derived.Test.YtehmnkholidanaaRows
import Derived.Test.YtehmnkholidanaaFlLift
import Derived.Test.YtehmnkholidanaaPuLOrder
import Derived.KernelRfl
import Derived.Test.YtehmnkholidanaaLwB
namespace Go.Proofs.Ytehmnkholidanaa
open Go Go.RowKit Go.Fl
set_option maxHeartbeats 2000000 in
theorem w_law26_IdentityOrder {σ : Hv} {w : World} (l_p : (List UInt8)) (turn_p : Int) (again_p : Int) (v1 : Value) {K : Bool → Prop} (hV : View σ w) (hr1 : RSl 1 RU8 σ v1 l_p) (hP : P_law26_IdentityOrder l_p turn_p again_p K) :
    Calls Try.prog 6 #[v1, (.int .u8 turn_p), (.int .u8 again_p)] w (fun e w1 => ∃ (r1 : Bool), e = .returned (.bool (r1)) ∧ Grow [] σ w σ w1 ∧ K r1) := by
  unfold P_law26_IdentityOrder at hP
  obtain ⟨a1, cap1, rfl⟩ := hr1.shape
  refine enter Try.func6 rfl rfl rfl ?_
  have hS := St.start hV
  refine seq_reg ?_
  refine o_assign (v := (.bool false)) rfl ?_
  refine wpList_nil ?_
  refine then_n ?_
  refine wp_seq ?_
  refine seq_reg ?_
  obtain ⟨Y1, hK1, hc1⟩ := hP
  refine o_call (args := []) rfl Try.call11 (Calls.mono (w_law26_awake hS.view hc1) ?_)
  rintro _ w1 ⟨r1_, rfl, hg1, hY1⟩
  refine ⟨_, rfl, ?_⟩
  have hS1 := hS.grow hg1
  replace hP := hK1 r1_ hY1
  refine o_not (r := (!r1_)) rfl rfl ?_
  refine wpList_nil ?_
  refine then_n ?_
  refine if_nb rfl (fun ht1 => ?_) (fun ht1 => ?_)
  · replace hP := hP.2 (by simp [ht1])
    refine seq_reg ?_
    refine o_assign (v := (.bool false)) rfl ?_
    refine wpList_nil ?_
    refine then_n ?_
    refine wp_ret ?_
    refine then_r ?_
    refine ret1 rfl (show ev _ _ _ = (.bool false) from rfl) ?_
    exact ⟨false, rfl, hS1.done.forget, hP⟩
  · replace hP := hP.1 ht1
    refine wp_skip ?_
    refine then_n ?_
    refine wp_seq ?_
    refine seq_reg ?_
    refine o_move (v := (.slice a1 l_p.length cap1)) rfl ?_
    refine o_len_slice rfl Try.underlying22 ?_
    have hlen1 := RSl.len63 hr1
    replace hP := hP hlen1
    refine o_gtr (r := (decide ((60 : Int) < ((l_p.length : Nat) : Int)))) rfl rfl rfl ?_
    refine wpList_nil ?_
    refine then_n ?_
    refine if_d ((60 : Int) < ((l_p.length : Nat) : Int)) rfl (fun ht2 => ?_) (fun ht2 => ?_)
    · replace hP := hP.1 ht2
      refine seq_reg ?_
      refine o_assign (v := (.bool true)) rfl ?_
      refine wpList_nil ?_
      refine then_n ?_
      refine wp_ret ?_
      refine then_r ?_
      refine ret1 rfl (show ev _ _ _ = (.bool true) from rfl) ?_
      exact ⟨true, rfl, hS1.done.forget, hP⟩
    · replace hP := hP.2 ht2
      refine wp_skip ?_
      refine then_n ?_
      refine seq_reg ?_
      refine o_move (v := (.slice a1 l_p.length cap1)) rfl ?_
      obtain ⟨Y2, hK2, hc2⟩ := hP
      refine o_call (args := [(.slice a1 l_p.length cap1), (.bool true)]) rfl Try.call12 (Calls.mono (w_data_Links l_p true (.slice a1 l_p.length cap1) hS1.view hr1 hc2) ?_)
      rintro _ w2 ⟨r2_, v2, σ1, rfl, hg2, hr2, hY2⟩
      refine ⟨_, rfl, ?_⟩
      have hS2 := hS1.grow hg2
      replace hP := hK2 r2_ hY2
      obtain ⟨a2, cap2, rfl⟩ := hr2.shape
      refine o_assign (v := (.slice a2 r2_.length cap2)) rfl ?_
      refine wpList_nil ?_
      refine then_n ?_
      refine seq_reg ?_
      refine o_assign (v := (.slice none 0 0)) rfl ?_
      refine wpList_nil ?_
      refine then_n ?_
      refine wp_seq ?_
      refine seq_reg ?_
      refine o_move (v := (.slice a2 r2_.length cap2)) rfl ?_
      refine o_len_slice rfl Try.underlying24 ?_
      have hlen2 := RSl.len63 hr2
      replace hP := hP hlen2
      obtain ⟨hi1, hP⟩ := hP
      refine o_sub (r := (((r2_.length : Nat) : Int) - (1 : Int))) rfl rfl (nwi rfl hi1) ?_
      refine o_assign (v := (.int .i64 (((r2_.length : Nat) : Int) - (1 : Int)))) rfl ?_
      refine wpList_nil ?_
      refine then_n ?_
      refine wp_block ?_
      have hS3 := hS2.addNil 28 3
      refine lp_loop2 (fun other_2 i_2 f z => ∃ (v4 : Value) (σ2 : Hv) (g : Fr), f = (upd (upd (upd (upd (upd g 1 (.int .u8 turn_p)) 2 (.int .u8 again_p)) 7 (.slice a2 r2_.length cap2)) 8 v4) 9 (.int .i64 i_2)) ∧ St ⟨w, σ, []⟩ z σ2 [vec v4 28 3 other_2.length ((other_2).flatMap encLk)] ∧ Sub σ1 σ2 ∧ v4.oneCell' = true ∧ Sml other_2.length) hP ⟨(.slice none 0 0), σ1, _, (upd_in rfl (upd_in rfl (upd_in rfl (upd_in rfl (upd_in rfl rfl))))), hS3, (Sub.refl _), rfl, (by simp [Sml])⟩ ?_
      clear hP
      rintro other_2 i_2 Y3 hP f w3 ⟨v4, σ2, g, rfl, hS4, hsub1, ho2, hl2⟩
      refine wp_seq ?_
      refine seq_reg ?_
      refine o_move (v := (.int .i64 i_2)) rfl ?_
      refine o_geq (r := (decide ((0 : Int) ≤ i_2))) rfl rfl rfl ?_
      refine wpList_nil ?_
      refine then_n ?_
      refine if_d ((0 : Int) ≤ i_2) rfl (fun ht3 => ?_) (fun ht3 => ?_)
      · replace hP := hP.1 ht3
        refine wp_skip ?_
        refine then_n ?_
        refine wp_seq ?_
        refine wp_block ?_
        refine seq_reg ?_
        refine o_move (v := (.slice a2 r2_.length cap2)) rfl ?_
        refine o_move (v := (.int .i64 i_2)) rfl ?_
        obtain ⟨j1_, hj1, hP⟩ := hP
        obtain ⟨x1_, hx1, hP⟩ := hP
        obtain ⟨ad1, cs1, ha1, hl3, hr3, hR1, hlt1⟩ := RSl.at hr2 hx1
        cases hR1
        refine o_iaddr_slice (k := j1_) (a' := (ad1.add (j1_ * 3))) (congrArg (fun z => Value.slice z _ _) ha1) rfl hj1 hlt1 Try.underlying24 Try.sizeOf28 rfl ?_
        refine o_loadA (cs := [(.string x1_.1), (.string x1_.2.1), (.int .i64 x1_.2.2)]) rfl Try.isAgg28 Try.sizeOf28 rfl (hr3.row (View.of hsub1 hS4.view)) ?_
        refine o_alloc (cs := [(.string (⟨#[]⟩ : ByteArray)), (.string (⟨#[]⟩ : ByteArray)), (.int .i64 (0 : Int))]) hS4 Try.zeroValue28 rfl ?_
        intro b1 w4 hS5
        refine o_store (T := 28) (vs := [(.string x1_.1), (.string x1_.2.1), (.int .i64 x1_.2.2)]) (cs' := [(.string x1_.1), (.string x1_.2.1), (.int .i64 x1_.2.2)]) (ms' := [blk b1 28 [(.string x1_.1), (.string x1_.2.1), (.int .i64 x1_.2.2)], vec v4 28 3 other_2.length ((other_2).flatMap encLk)]) (i := 0) hS5 rfl rfl rfl Try.sizeOf28 rfl (ones rfl) rfl (Nat.le_of_ble_eq_true rfl) rfl rfl ?_
        intro w5 hS6
        refine wpList_nil ?_
        refine then_n ?_
        obtain ⟨Y4, hK3, hP⟩ := hP
        refine cut (fun f z => ∃ (b_1 : Lk.L3) (σ3 : Hv) (g : Fr), Y4 b_1 ∧ f = (upd (upd (upd (upd (upd (upd g 1 (.int .u8 turn_p)) 2 (.int .u8 again_p)) 7 (.slice a2 r2_.length cap2)) 8 v4) 9 (.int .i64 i_2)) 10 (.pointer (some ⟨b1, 0, none⟩))) ∧ St ⟨w, σ, []⟩ z σ3 [blk b1 28 [(.string b_1.1), (.string b_1.2.1), (.int .i64 b_1.2.2)], vec v4 28 3 other_2.length ((other_2).flatMap encLk)] ∧ Sub σ2 σ3) ?_ ?_
        · refine seq_reg ?_
          refine o_move (v := (.int .i64 i_2)) rfl ?_
          refine o_move (v := (.int .u8 turn_p)) rfl ?_
          obtain ⟨hi2, hP⟩ := hP
          refine o_conv (r := turn_p) rfl Try.underlying5 Try.underlying3 (nwi rfl hi2) ?_
          obtain ⟨hi3, hP⟩ := hP
          refine o_add (r := (i_2 + turn_p)) rfl rfl (nwi rfl hi3) ?_
          refine o_rem (r := ((i_2 + turn_p).tmod (3 : Int))) rfl rfl (by omega) rfl ?_
          refine o_eql (r := (decide (((i_2 + turn_p).tmod (3 : Int)) = (0 : Int)))) rfl rfl rfl ?_
          refine wpList_nil ?_
          refine then_n ?_
          refine if_d (((i_2 + turn_p).tmod (3 : Int)) = (0 : Int)) rfl (fun ht4 => ?_) (fun ht4 => ?_)
          · replace hP := hP.1 ht4
            refine one_reg ?_
            refine o_faddr (a' := ⟨b1, 1, none⟩) rfl Try.underlying28 rfl Try.sizeOf9 rfl ?_
            refine o_load (v := (.string x1_.2.1)) rfl Try.isAgg9 (hS6.cell (i := 0) rfl rfl) ?_
            refine o_faddr (a' := ⟨b1, 0, none⟩) rfl Try.underlying28 rfl Try.sizeOf9 rfl ?_
            refine o_load (v := (.string x1_.1)) rfl Try.isAgg9 (hS6.cell (i := 0) rfl rfl) ?_
            refine o_faddr (a' := ⟨b1, 0, none⟩) rfl Try.underlying28 rfl Try.sizeOf9 rfl ?_
            refine o_store (T := 28) (vs := [(.string x1_.2.1)]) (cs' := [(.string x1_.2.1), (.string x1_.2.1), (.int .i64 x1_.2.2)]) (ms' := [blk b1 28 [(.string x1_.2.1), (.string x1_.2.1), (.int .i64 x1_.2.2)], vec v4 28 3 other_2.length ((other_2).flatMap encLk)]) (i := 0) hS6 rfl rfl rfl Try.sizeOf9 rfl (ones rfl) rfl (Nat.le_of_ble_eq_true rfl) rfl rfl ?_
            intro w6 hS7
            refine o_faddr (a' := ⟨b1, 1, none⟩) rfl Try.underlying28 rfl Try.sizeOf9 rfl ?_
            refine o_store (T := 28) (vs := [(.string x1_.1)]) (cs' := [(.string x1_.2.1), (.string x1_.1), (.int .i64 x1_.2.2)]) (ms' := [blk b1 28 [(.string x1_.2.1), (.string x1_.1), (.int .i64 x1_.2.2)], vec v4 28 3 other_2.length ((other_2).flatMap encLk)]) (i := 0) hS7 rfl rfl rfl Try.sizeOf9 rfl (ones rfl) rfl (Nat.le_of_ble_eq_true rfl) rfl rfl ?_
            intro w7 hS8
            refine wpList_nil ?_
            refine then_n ?_
            exact ⟨_, rfl, (x1_.2.1, x1_.1, x1_.2.2), σ2, _, hP, (upd_in rfl (upd_in rfl (upd_in rfl (upd_in rfl (upd_in rfl (upd_in rfl rfl)))))), hS8, (Sub.refl _)⟩
          · replace hP := hP.2 ht4
            refine wp_skip ?_
            refine then_n ?_
            exact ⟨_, rfl, x1_, σ2, _, hP, (upd_in rfl (upd_in rfl (upd_in rfl (upd_in rfl (upd_in rfl (upd_in rfl rfl)))))), hS6, (Sub.refl _)⟩
        · rintro f w8 ⟨b_1, σ3, g, hY3, rfl, hS9, hsub2⟩
          replace hP := hK3 b_1 hY3
          refine seq_reg ?_
          refine o_move (v := v4) rfl ?_
          refine o_loadA (cs := [(.string b_1.1), (.string b_1.2.1), (.int .i64 b_1.2.2)]) rfl Try.isAgg28 Try.sizeOf28 rfl (blk_row (hS9.get (i := 0) rfl)) ?_
          refine o_bslice (cs := [(.string b_1.1), (.string b_1.2.1), (.int .i64 b_1.2.2)]) (e := 28) hS9 (fun _ => by kernel_rfl) ?_
          intro b2 w9 hS10
          obtain ⟨hsm1, hP⟩ := hP
          refine o_app (Ms := fun v5 => [blk b2 28 [(.string b_1.1), (.string b_1.2.1), (.int .i64 b_1.2.2)], blk b1 28 [(.string b_1.1), (.string b_1.2.1), (.int .i64 b_1.2.2)], vec v5 28 3 ((other_2 ++ [b_1]).length) ((other_2 ++ [b_1]).flatMap encLk)]) (k' := (other_2 ++ [b_1]).length) (xs' := (other_2 ++ [b_1]).flatMap encLk) Try.underlying24 Try.type28 rfl rfl (bytes := 40) rfl rfl (Nat.succ_pos _) hS10 rfl (q := 2) rfl rfl rfl (blk_row (hS10.get (i := 0) rfl)) (ones rfl) hsm1 (by omega) (by first | rfl | simp) (by simp [encLk]) (fun _ => rfl) ?_
          intro v5 w10 ho3 hS11
          have hS12 := hS11.drop 0 (ms' := [blk b1 28 [(.string b_1.1), (.string b_1.2.1), (.int .i64 b_1.2.2)], vec v5 28 3 ((other_2 ++ [b_1]).length) ((other_2 ++ [b_1]).flatMap encLk)]) rfl
          refine o_assign (v := v5) rfl ?_
          refine wpList_nil ?_
          refine then_n ?_
          refine seq_reg ?_
          refine o_move (v := (.int .i64 i_2)) rfl ?_
          refine o_move (v := (.int .u8 again_p)) rfl ?_
          obtain ⟨hi5, hP⟩ := hP
          refine o_conv (r := again_p) rfl Try.underlying5 Try.underlying3 (nwi rfl hi5) ?_
          obtain ⟨hi6, hP⟩ := hP
          refine o_add (r := (i_2 + again_p)) rfl rfl (nwi rfl hi6) ?_
          refine o_rem (r := ((i_2 + again_p).tmod (4 : Int))) rfl rfl (by omega) rfl ?_
          refine o_eql (r := (decide (((i_2 + again_p).tmod (4 : Int)) = (0 : Int)))) rfl rfl rfl ?_
          refine wpList_nil ?_
          refine then_n ?_
          refine if_d (((i_2 + again_p).tmod (4 : Int)) = (0 : Int)) rfl (fun ht5 => ?_) (fun ht5 => ?_)
          · replace hP := hP.1 ht5
            refine one_reg ?_
            refine o_move (v := v5) rfl ?_
            refine o_loadA (cs := [(.string b_1.1), (.string b_1.2.1), (.int .i64 b_1.2.2)]) rfl Try.isAgg28 Try.sizeOf28 rfl (blk_row (hS12.get (i := 0) rfl)) ?_
            refine o_bslice (cs := [(.string b_1.1), (.string b_1.2.1), (.int .i64 b_1.2.2)]) (e := 28) hS12 (fun _ => by kernel_rfl) ?_
            intro b3 w11 hS13
            obtain ⟨hsm2, hP⟩ := hP
            refine o_app (Ms := fun v6 => [blk b3 28 [(.string b_1.1), (.string b_1.2.1), (.int .i64 b_1.2.2)], blk b1 28 [(.string b_1.1), (.string b_1.2.1), (.int .i64 b_1.2.2)], vec v6 28 3 ((other_2 ++ [b_1] ++ [b_1]).length) ((other_2 ++ [b_1] ++ [b_1]).flatMap encLk)]) (k' := (other_2 ++ [b_1] ++ [b_1]).length) (xs' := (other_2 ++ [b_1] ++ [b_1]).flatMap encLk) Try.underlying24 Try.type28 rfl rfl (bytes := 40) rfl rfl (Nat.succ_pos _) hS13 rfl (q := 2) rfl rfl rfl (blk_row (hS13.get (i := 0) rfl)) (ones rfl) hsm2 (by omega) (by first | rfl | simp) (by simp [encLk]) (fun _ => rfl) ?_
            intro v6 w12 ho4 hS14
            have hS15 := hS14.drop 0 (ms' := [blk b1 28 [(.string b_1.1), (.string b_1.2.1), (.int .i64 b_1.2.2)], vec v6 28 3 ((other_2 ++ [b_1] ++ [b_1]).length) ((other_2 ++ [b_1] ++ [b_1]).flatMap encLk)]) rfl
            refine o_assign (v := v6) rfl ?_
            refine wpList_nil ?_
            refine blk_n ?_
            refine then_n ?_
            refine one_reg ?_
            refine o_move (v := (.int .i64 i_2)) rfl ?_
            obtain ⟨hi8, hP⟩ := hP
            refine o_sub (r := (i_2 - (1 : Int))) rfl rfl (nwi rfl hi8) ?_
            refine o_assign (v := (.int .i64 (i_2 - (1 : Int)))) rfl ?_
            refine wpList_nil ?_
            refine then_n ?_
            have hS16 := hS15.front 1 rfl (ms' := [vec v6 28 3 ((other_2 ++ [b_1] ++ [b_1]).length) ((other_2 ++ [b_1] ++ [b_1]).flatMap encLk), blk b1 28 [(.string b_1.1), (.string b_1.2.1), (.int .i64 b_1.2.2)]]) rfl
            exact ⟨other_2 ++ [b_1] ++ [b_1], (i_2 - (1 : Int)), _, rfl, hP, v6, σ3, _, (upd_in rfl (upd_in rfl (upd_in rfl (upd_in rfl (upd_in rfl rfl))))), (hS16.keep 1 (ms' := [vec v6 28 3 ((other_2 ++ [b_1] ++ [b_1]).length) ((other_2 ++ [b_1] ++ [b_1]).flatMap encLk)]) rfl), (Sub.trans hsub1 hsub2), ho4, hsm2⟩
          · replace hP := hP.2 ht5
            refine wp_skip ?_
            refine blk_n ?_
            refine then_n ?_
            refine one_reg ?_
            refine o_move (v := (.int .i64 i_2)) rfl ?_
            obtain ⟨hi9, hP⟩ := hP
            refine o_sub (r := (i_2 - (1 : Int))) rfl rfl (nwi rfl hi9) ?_
            refine o_assign (v := (.int .i64 (i_2 - (1 : Int)))) rfl ?_
            refine wpList_nil ?_
            refine then_n ?_
            have hS17 := hS12.front 1 rfl (ms' := [vec v5 28 3 ((other_2 ++ [b_1]).length) ((other_2 ++ [b_1]).flatMap encLk), blk b1 28 [(.string b_1.1), (.string b_1.2.1), (.int .i64 b_1.2.2)]]) rfl
            exact ⟨other_2 ++ [b_1], (i_2 - (1 : Int)), _, rfl, hP, v5, σ3, _, (upd_in rfl (upd_in rfl (upd_in rfl (upd_in rfl (upd_in rfl rfl))))), (hS17.keep 1 (ms' := [vec v5 28 3 ((other_2 ++ [b_1]).length) ((other_2 ++ [b_1]).flatMap encLk)]) rfl), (Sub.trans hsub1 hsub2), ho3, hsm1⟩
      · replace hP := hP.2 ht3
        refine wp_exit ?_
        refine then_e ?_
        refine then_e ?_
        refine blk_hit ?_
        refine then_n ?_
        refine seq_reg ?_
        obtain ⟨Y5, hK4, hc3⟩ := hP
        refine o_call (args := []) rfl Try.call14 (Calls.mono (w_data_Ids hS4.view hc3) ?_)
        rintro _ w13 ⟨r3_, v7, rfl, hg3, hl4, ho5, hY4⟩
        refine ⟨_, rfl, ?_⟩
        have hS18 := hS4.growAdd hg3 (o := vec v7 9 1 r3_.length ((r3_).flatMap encTx)) ho5
        replace hP := hK4 r3_ hY4
        refine o_assign (v := v7) rfl ?_
        refine wpList_nil ?_
        refine then_n ?_
        refine wp_seq ?_
        refine seq_reg ?_
        refine o_assign (v := (.int .i64 (0 : Int))) rfl ?_
        refine wpList_nil ?_
        refine then_n ?_
        refine wp_block ?_
        obtain ⟨σ4, hS19, hsub3, hr5⟩ := hS18.peek (i := 1) rfl (notin0 _) encLk_len hl2
        obtain ⟨a3, cap3, rfl⟩ := hr5.shape
        refine lp_loop1 (fun i_5 f z => ∃ (σ5 : Hv) (g : Fr), f = (upd (upd (upd (upd g 7 (.slice a2 r2_.length cap2)) 8 (.slice a3 other_2.length cap3)) 11 v7) 12 (.int .i64 ((i_5 : Nat) : Int))) ∧ St ⟨w, σ, []⟩ z σ5 [vec v7 9 1 r3_.length ((r3_).flatMap encTx)] ∧ Sub σ4 σ5) hP ⟨σ4, _, (upd_in rfl (upd_in rfl (upd_in rfl (upd_in rfl rfl)))), hS19, (Sub.refl _)⟩ ?_
        clear hP
        rintro i_5 Y6 hP f w14 ⟨σ5, g, rfl, hS20, hsub4⟩
        refine wp_seq ?_
        refine seq_reg ?_
        refine o_move (v := (.int .i64 ((i_5 : Nat) : Int))) rfl ?_
        refine o_move (v := v7) rfl ?_
        refine o_len_vec hS20 rfl (i := 0) rfl Try.underlying29 ?_
        have hlen3 : r3_.length ≤ 9223372036854775807 := by have := hl4; unfold Sml at this; omega
        replace hP := hP hlen3
        refine o_lss (r := (decide (((i_5 : Nat) : Int) < ((r3_.length : Nat) : Int)))) rfl rfl rfl ?_
        refine wpList_nil ?_
        refine then_n ?_
        refine if_d (((i_5 : Nat) : Int) < ((r3_.length : Nat) : Int)) rfl (fun ht6 => ?_) (fun ht6 => ?_)
        · replace hP := hP.1 ht6
          refine wp_skip ?_
          refine then_n ?_
          refine wp_seq ?_
          refine wp_block ?_
          refine seq_reg ?_
          refine o_move (v := (.slice a2 r2_.length cap2)) rfl ?_
          refine o_move (v := v7) rfl ?_
          refine o_move (v := (.int .i64 ((i_5 : Nat) : Int))) rfl ?_
          obtain ⟨x2_, hx2⟩ := getq (l := r3_) (k := i_5) (by have := ht6; omega)
          replace hP := hP x2_ hx2
          obtain ⟨g1, cp1, hv1⟩ := vec_posv (hS20.get (i := 0) rfl) (lt_of_getq hx2)
          refine o_iaddr_slice (k := i_5) (a' := ⟨g1, i_5 * 1, none⟩) hv1 rfl rfl (lt_of_getq hx2) Try.underlying29 Try.sizeOf9 (by simp [addr_lit]) ?_
          refine o_load (v := (.string x2_)) rfl Try.isAgg9 (vec_cellv encTx_len (j := 0) hv1 (hS20.get (i := 0) rfl) hx2 rfl) ?_
          obtain ⟨Y7, hK5, hc4⟩ := hP
          refine o_call (args := [(.slice a2 r2_.length cap2), (.string x2_)]) rfl Try.call18 (Calls.mono (w_identity_Members r2_ x2_ (.slice a2 r2_.length cap2) hS20.view (RSl.menc (Sub.trans (Sub.trans hsub1 hsub3) hsub4) hr2) hc4) ?_)
          rintro _ w15 ⟨r4_, v8, σ6, rfl, hg4, hr6, hY5⟩
          refine ⟨_, rfl, ?_⟩
          have hS21 := hS20.grow hg4
          replace hP := hK5 r4_ hY5
          obtain ⟨a4, cap4, rfl⟩ := hr6.shape
          refine o_assign (v := (.slice a4 r4_.length cap4)) rfl ?_
          refine wpList_nil ?_
          refine then_n ?_
          refine wp_seq ?_
          refine d_reg (fun z => St ⟨w, σ, []⟩ z σ6 [vec v7 9 1 r3_.length ((r3_).flatMap encTx)]) (by kernel_rfl) rfl rfl ?_
          have hS22 := hS21.drew
          refine d_take (i := 0) (v := (.slice a4 r4_.length cap4)) (l' := #[true, false, false, false, false, false, false, false, false, false, false, false, false, false, false, false, false, false, false, false, false, false, false, false, false, false, false, false, false, false, false, false, false, false, false, false, false, false]) rfl (by kernel_rfl) (by kernel_rfl) (by kernel_rfl) rfl rfl (fun _ _ _ h => h) hS22 (fun w hJ K hK => ?_) ?_
          · refine o_move (v := (.slice a4 r4_.length cap4)) rfl ?_
            exact ⟨rfl, hK⟩
          have hlen4 := RSl.len63 hr6
          replace hP := hP hlen4
          refine d_take (i := 1) (v := (.int .i64 ((r4_.length : Nat) : Int))) (l' := #[true, true, false, false, false, false, false, false, false, false, false, false, false, false, false, false, false, false, false, false, false, false, false, false, false, false, false, false, false, false, false, false, false, false, false, false, false, false]) rfl (by kernel_rfl) (by kernel_rfl) (by kernel_rfl) rfl rfl (fun _ _ _ h => h) hS22 (fun w hJ K hK => ?_) ?_
          · refine o_len_slice rfl Try.underlying29 ?_
            exact ⟨rfl, hK⟩
          refine d_take (i := 2) (v := (.bool (decide (((r4_.length : Nat) : Int) = (0 : Int))))) (l' := #[true, true, true, false, false, false, false, false, false, false, false, false, false, false, false, false, false, false, false, false, false, false, false, false, false, false, false, false, false, false, false, false, false, false, false, false, false, false]) rfl (by kernel_rfl) (by kernel_rfl) (by kernel_rfl) rfl rfl (fun _ _ _ h => h) hS22 (fun w hJ K hK => ?_) ?_
          · refine o_eql (r := (decide (((r4_.length : Nat) : Int) = (0 : Int)))) rfl rfl rfl ?_
            exact ⟨rfl, hK⟩
          by_cases hb1 : ((r4_.length : Nat) : Int) = (0 : Int)
          · replace hP := hP.1 hb1
            refine d_take (i := 3) (v := (.bool true)) (l' := #[true, true, true, true, false, false, false, false, false, false, false, false, false, false, false, false, false, false, false, false, false, false, false, false, false, false, false, false, false, false, false, false, false, false, false, false, false, false]) rfl (by kernel_rfl) (by kernel_rfl) (by kernel_rfl) rfl rfl (fun _ _ _ h => h) hS22 (fun w hJ K hK => ?_) ?_
            · refine o_move (v := (.bool true)) (congrArg Value.bool (decide_eq_true hb1)) ?_
              exact ⟨rfl, hK⟩
            refine d_take (i := 4) (v := undef) (l' := #[true, true, true, true, true, false, false, false, false, false, false, false, false, false, false, false, false, false, false, false, false, false, false, false, false, false, false, false, false, false, false, false, false, false, false, false, false, false]) rfl (by kernel_rfl) (by kernel_rfl) (by kernel_rfl) rfl rfl (fun _ _ _ h => h) hS22 (fun w hJ K hK => ?_) ?_
            · refine o_off rfl rfl ?_
              exact ⟨rfl, hK⟩
            refine d_take (i := 5) (v := undef) (l' := #[true, true, true, true, true, true, false, false, false, false, false, false, false, false, false, false, false, false, false, false, false, false, false, false, false, false, false, false, false, false, false, false, false, false, false, false, false, false]) rfl (by kernel_rfl) (by kernel_rfl) (by kernel_rfl) rfl rfl (fun _ _ _ h => h) hS22 (fun w hJ K hK => ?_) ?_
            · refine o_off rfl rfl ?_
              exact ⟨rfl, hK⟩
            refine d_take (i := 6) (v := undef) (l' := #[true, true, true, true, true, true, true, false, false, false, false, false, false, false, false, false, false, false, false, false, false, false, false, false, false, false, false, false, false, false, false, false, false, false, false, false, false, false]) rfl (by kernel_rfl) (by kernel_rfl) (by kernel_rfl) rfl rfl (fun _ _ _ h => h) hS22 (fun w hJ K hK => ?_) ?_
            · refine o_off rfl rfl ?_
              exact ⟨rfl, hK⟩
            refine d_take (i := 7) (v := undef) (l' := #[true, true, true, true, true, true, true, true, false, false, false, false, false, false, false, false, false, false, false, false, false, false, false, false, false, false, false, false, false, false, false, false, false, false, false, false, false, false]) rfl (by kernel_rfl) (by kernel_rfl) (by kernel_rfl) rfl rfl (fun _ _ _ h => h) hS22 (fun w hJ K hK => ?_) ?_
            · refine o_off rfl rfl ?_
              exact ⟨rfl, hK⟩
            refine d_take (i := 8) (v := undef) (l' := #[true, true, true, true, true, true, true, true, true, false, false, false, false, false, false, false, false, false, false, false, false, false, false, false, false, false, false, false, false, false, false, false, false, false, false, false, false, false]) rfl (by kernel_rfl) (by kernel_rfl) (by kernel_rfl) rfl rfl (fun _ _ _ h => h) hS22 (fun w hJ K hK => ?_) ?_
            · refine o_off rfl rfl ?_
              exact ⟨rfl, hK⟩
            refine d_take (i := 9) (v := undef) (l' := #[true, true, true, true, true, true, true, true, true, true, false, false, false, false, false, false, false, false, false, false, false, false, false, false, false, false, false, false, false, false, false, false, false, false, false, false, false, false]) rfl (by kernel_rfl) (by kernel_rfl) (by kernel_rfl) rfl rfl (fun _ _ _ h => h) hS22 (fun w hJ K hK => ?_) ?_
            · refine o_off rfl rfl ?_
              exact ⟨rfl, hK⟩
            refine d_take (i := 10) (v := undef) (l' := #[true, true, true, true, true, true, true, true, true, true, true, false, false, false, false, false, false, false, false, false, false, false, false, false, false, false, false, false, false, false, false, false, false, false, false, false, false, false]) rfl (by kernel_rfl) (by kernel_rfl) (by kernel_rfl) rfl rfl (fun _ _ _ h => h) hS22 (fun w hJ K hK => ?_) ?_
            · refine o_off rfl rfl ?_
              exact ⟨rfl, hK⟩
            refine d_take (i := 11) (v := undef) (l' := #[true, true, true, true, true, true, true, true, true, true, true, true, false, false, false, false, false, false, false, false, false, false, false, false, false, false, false, false, false, false, false, false, false, false, false, false, false, false]) rfl (by kernel_rfl) (by kernel_rfl) (by kernel_rfl) rfl rfl (fun _ _ _ h => h) hS22 (fun w hJ K hK => ?_) ?_
            · refine o_off rfl rfl ?_
              exact ⟨rfl, hK⟩
            refine d_take (i := 12) (v := undef) (l' := #[true, true, true, true, true, true, true, true, true, true, true, true, true, false, false, false, false, false, false, false, false, false, false, false, false, false, false, false, false, false, false, false, false, false, false, false, false, false]) rfl (by kernel_rfl) (by kernel_rfl) (by kernel_rfl) rfl rfl (fun _ _ _ h => h) hS22 (fun w hJ K hK => ?_) ?_
            · refine o_off rfl rfl ?_
              exact ⟨rfl, hK⟩
            refine d_take (i := 13) (v := (.bool true)) (l' := #[true, true, true, true, true, true, true, true, true, true, true, true, true, true, false, false, false, false, false, false, false, false, false, false, false, false, false, false, false, false, false, false, false, false, false, false, false, false]) rfl (by kernel_rfl) (by kernel_rfl) (by kernel_rfl) rfl rfl (fun _ _ _ h => h) hS22 (fun w hJ K hK => ?_) ?_
            · refine o_pick_t (v := (.bool true)) rfl rfl ?_
              exact ⟨rfl, hK⟩
            refine d_take (i := 14) (v := (.bool true)) (l' := #[true, true, true, true, true, true, true, true, true, true, true, true, true, true, true, false, false, false, false, false, false, false, false, false, false, false, false, false, false, false, false, false, false, false, false, false, false, false]) rfl (by kernel_rfl) (by kernel_rfl) (by kernel_rfl) rfl rfl (fun _ _ _ h => h) hS22 (fun w hJ K hK => ?_) ?_
            · refine o_move (v := (.bool true)) rfl ?_
              exact ⟨rfl, hK⟩
            refine d_take (i := 15) (v := undef) (l' := #[true, true, true, true, true, true, true, true, true, true, true, true, true, true, true, true, false, false, false, false, false, false, false, false, false, false, false, false, false, false, false, false, false, false, false, false, false, false]) rfl (by kernel_rfl) (by kernel_rfl) (by kernel_rfl) rfl rfl (fun _ _ _ h => h) hS22 (fun w hJ K hK => ?_) ?_
            · refine o_off rfl rfl ?_
              exact ⟨rfl, hK⟩
            refine d_take (i := 16) (v := undef) (l' := #[true, true, true, true, true, true, true, true, true, true, true, true, true, true, true, true, true, false, false, false, false, false, false, false, false, false, false, false, false, false, false, false, false, false, false, false, false, false]) rfl (by kernel_rfl) (by kernel_rfl) (by kernel_rfl) rfl rfl (fun _ _ _ h => h) hS22 (fun w hJ K hK => ?_) ?_
            · refine o_off rfl rfl ?_
              exact ⟨rfl, hK⟩
            refine d_take (i := 17) (v := undef) (l' := #[true, true, true, true, true, true, true, true, true, true, true, true, true, true, true, true, true, true, false, false, false, false, false, false, false, false, false, false, false, false, false, false, false, false, false, false, false, false]) rfl (by kernel_rfl) (by kernel_rfl) (by kernel_rfl) rfl rfl (fun _ _ _ h => h) hS22 (fun w hJ K hK => ?_) ?_
            · refine o_off rfl rfl ?_
              exact ⟨rfl, hK⟩
            refine d_take (i := 18) (v := undef) (l' := #[true, true, true, true, true, true, true, true, true, true, true, true, true, true, true, true, true, true, true, false, false, false, false, false, false, false, false, false, false, false, false, false, false, false, false, false, false, false]) rfl (by kernel_rfl) (by kernel_rfl) (by kernel_rfl) rfl rfl (fun _ _ _ h => h) hS22 (fun w hJ K hK => ?_) ?_
            · refine o_off rfl rfl ?_
              exact ⟨rfl, hK⟩
            refine d_take (i := 19) (v := undef) (l' := #[true, true, true, true, true, true, true, true, true, true, true, true, true, true, true, true, true, true, true, true, false, false, false, false, false, false, false, false, false, false, false, false, false, false, false, false, false, false]) rfl (by kernel_rfl) (by kernel_rfl) (by kernel_rfl) rfl rfl (fun _ _ _ h => h) hS22 (fun w hJ K hK => ?_) ?_
            · refine o_off rfl rfl ?_
              exact ⟨rfl, hK⟩
            refine d_take (i := 20) (v := undef) (l' := #[true, true, true, true, true, true, true, true, true, true, true, true, true, true, true, true, true, true, true, true, true, false, false, false, false, false, false, false, false, false, false, false, false, false, false, false, false, false]) rfl (by kernel_rfl) (by kernel_rfl) (by kernel_rfl) rfl rfl (fun _ _ _ h => h) hS22 (fun w hJ K hK => ?_) ?_
            · refine o_off rfl rfl ?_
              exact ⟨rfl, hK⟩
            refine d_take (i := 21) (v := undef) (l' := #[true, true, true, true, true, true, true, true, true, true, true, true, true, true, true, true, true, true, true, true, true, true, false, false, false, false, false, false, false, false, false, false, false, false, false, false, false, false]) rfl (by kernel_rfl) (by kernel_rfl) (by kernel_rfl) rfl rfl (fun _ _ _ h => h) hS22 (fun w hJ K hK => ?_) ?_
            · refine o_off rfl rfl ?_
              exact ⟨rfl, hK⟩
            refine d_take (i := 22) (v := undef) (l' := #[true, true, true, true, true, true, true, true, true, true, true, true, true, true, true, true, true, true, true, true, true, true, true, false, false, false, false, false, false, false, false, false, false, false, false, false, false, false]) rfl (by kernel_rfl) (by kernel_rfl) (by kernel_rfl) rfl rfl (fun _ _ _ h => h) hS22 (fun w hJ K hK => ?_) ?_
            · refine o_off rfl rfl ?_
              exact ⟨rfl, hK⟩
            refine d_take (i := 23) (v := undef) (l' := #[true, true, true, true, true, true, true, true, true, true, true, true, true, true, true, true, true, true, true, true, true, true, true, true, false, false, false, false, false, false, false, false, false, false, false, false, false, false]) rfl (by kernel_rfl) (by kernel_rfl) (by kernel_rfl) rfl rfl (fun _ _ _ h => h) hS22 (fun w hJ K hK => ?_) ?_
            · refine o_off rfl rfl ?_
              exact ⟨rfl, hK⟩
            refine d_take (i := 24) (v := undef) (l' := #[true, true, true, true, true, true, true, true, true, true, true, true, true, true, true, true, true, true, true, true, true, true, true, true, true, false, false, false, false, false, false, false, false, false, false, false, false, false]) rfl (by kernel_rfl) (by kernel_rfl) (by kernel_rfl) rfl rfl (fun _ _ _ h => h) hS22 (fun w hJ K hK => ?_) ?_
            · refine o_off rfl rfl ?_
              exact ⟨rfl, hK⟩
            refine d_take (i := 25) (v := (.bool true)) (l' := #[true, true, true, true, true, true, true, true, true, true, true, true, true, true, true, true, true, true, true, true, true, true, true, true, true, true, false, false, false, false, false, false, false, false, false, false, false, false]) rfl (by kernel_rfl) (by kernel_rfl) (by kernel_rfl) rfl rfl (fun _ _ _ h => h) hS22 (fun w hJ K hK => ?_) ?_
            · refine o_pick_t (v := (.bool true)) rfl rfl ?_
              exact ⟨rfl, hK⟩
            refine d_take (i := 26) (v := (.bool true)) (l' := #[true, true, true, true, true, true, true, true, true, true, true, true, true, true, true, true, true, true, true, true, true, true, true, true, true, true, true, false, false, false, false, false, false, false, false, false, false, false]) rfl (by kernel_rfl) (by kernel_rfl) (by kernel_rfl) rfl rfl (fun _ _ _ h => h) hS22 (fun w hJ K hK => ?_) ?_
            · refine o_move (v := (.bool true)) rfl ?_
              exact ⟨rfl, hK⟩
            refine d_take (i := 27) (v := undef) (l' := #[true, true, true, true, true, true, true, true, true, true, true, true, true, true, true, true, true, true, true, true, true, true, true, true, true, true, true, true, false, false, false, false, false, false, false, false, false, false]) rfl (by kernel_rfl) (by kernel_rfl) (by kernel_rfl) rfl rfl (fun _ _ _ h => h) hS22 (fun w hJ K hK => ?_) ?_
            · refine o_off rfl rfl ?_
              exact ⟨rfl, hK⟩
            refine d_take (i := 28) (v := undef) (l' := #[true, true, true, true, true, true, true, true, true, true, true, true, true, true, true, true, true, true, true, true, true, true, true, true, true, true, true, true, true, false, false, false, false, false, false, false, false, false]) rfl (by kernel_rfl) (by kernel_rfl) (by kernel_rfl) rfl rfl (fun _ _ _ h => h) hS22 (fun w hJ K hK => ?_) ?_
            · refine o_off rfl rfl ?_
              exact ⟨rfl, hK⟩
            refine d_take (i := 29) (v := undef) (l' := #[true, true, true, true, true, true, true, true, true, true, true, true, true, true, true, true, true, true, true, true, true, true, true, true, true, true, true, true, true, true, false, false, false, false, false, false, false, false]) rfl (by kernel_rfl) (by kernel_rfl) (by kernel_rfl) rfl rfl (fun _ _ _ h => h) hS22 (fun w hJ K hK => ?_) ?_
            · refine o_off rfl rfl ?_
              exact ⟨rfl, hK⟩
            refine d_take (i := 30) (v := undef) (l' := #[true, true, true, true, true, true, true, true, true, true, true, true, true, true, true, true, true, true, true, true, true, true, true, true, true, true, true, true, true, true, true, false, false, false, false, false, false, false]) rfl (by kernel_rfl) (by kernel_rfl) (by kernel_rfl) rfl rfl (fun _ _ _ h => h) hS22 (fun w hJ K hK => ?_) ?_
            · refine o_off rfl rfl ?_
              exact ⟨rfl, hK⟩
            refine d_take (i := 31) (v := undef) (l' := #[true, true, true, true, true, true, true, true, true, true, true, true, true, true, true, true, true, true, true, true, true, true, true, true, true, true, true, true, true, true, true, true, false, false, false, false, false, false]) rfl (by kernel_rfl) (by kernel_rfl) (by kernel_rfl) rfl rfl (fun _ _ _ h => h) hS22 (fun w hJ K hK => ?_) ?_
            · refine o_off rfl rfl ?_
              exact ⟨rfl, hK⟩
            refine d_take (i := 32) (v := undef) (l' := #[true, true, true, true, true, true, true, true, true, true, true, true, true, true, true, true, true, true, true, true, true, true, true, true, true, true, true, true, true, true, true, true, true, false, false, false, false, false]) rfl (by kernel_rfl) (by kernel_rfl) (by kernel_rfl) rfl rfl (fun _ _ _ h => h) hS22 (fun w hJ K hK => ?_) ?_
            · refine o_off rfl rfl ?_
              exact ⟨rfl, hK⟩
            refine d_take (i := 33) (v := undef) (l' := #[true, true, true, true, true, true, true, true, true, true, true, true, true, true, true, true, true, true, true, true, true, true, true, true, true, true, true, true, true, true, true, true, true, true, false, false, false, false]) rfl (by kernel_rfl) (by kernel_rfl) (by kernel_rfl) rfl rfl (fun _ _ _ h => h) hS22 (fun w hJ K hK => ?_) ?_
            · refine o_off rfl rfl ?_
              exact ⟨rfl, hK⟩
            refine d_take (i := 34) (v := undef) (l' := #[true, true, true, true, true, true, true, true, true, true, true, true, true, true, true, true, true, true, true, true, true, true, true, true, true, true, true, true, true, true, true, true, true, true, true, false, false, false]) rfl (by kernel_rfl) (by kernel_rfl) (by kernel_rfl) rfl rfl (fun _ _ _ h => h) hS22 (fun w hJ K hK => ?_) ?_
            · refine o_off rfl rfl ?_
              exact ⟨rfl, hK⟩
            refine d_take (i := 35) (v := undef) (l' := #[true, true, true, true, true, true, true, true, true, true, true, true, true, true, true, true, true, true, true, true, true, true, true, true, true, true, true, true, true, true, true, true, true, true, true, true, false, false]) rfl (by kernel_rfl) (by kernel_rfl) (by kernel_rfl) rfl rfl (fun _ _ _ h => h) hS22 (fun w hJ K hK => ?_) ?_
            · refine o_off rfl rfl ?_
              exact ⟨rfl, hK⟩
            refine d_take (i := 36) (v := undef) (l' := #[true, true, true, true, true, true, true, true, true, true, true, true, true, true, true, true, true, true, true, true, true, true, true, true, true, true, true, true, true, true, true, true, true, true, true, true, true, false]) rfl (by kernel_rfl) (by kernel_rfl) (by kernel_rfl) rfl rfl (fun _ _ _ h => h) hS22 (fun w hJ K hK => ?_) ?_
            · refine o_off rfl rfl ?_
              exact ⟨rfl, hK⟩
            refine d_take (i := 37) (v := (.bool true)) (l' := #[true, true, true, true, true, true, true, true, true, true, true, true, true, true, true, true, true, true, true, true, true, true, true, true, true, true, true, true, true, true, true, true, true, true, true, true, true, true]) rfl (by kernel_rfl) (by kernel_rfl) (by kernel_rfl) rfl rfl (fun _ _ _ h => h) hS22 (fun w hJ K hK => ?_) ?_
            · refine o_pick_t (v := (.bool true)) rfl rfl ?_
              exact ⟨rfl, hK⟩
            refine d_done (by kernel_rfl) ?_
            refine then_n ?_
            refine if_t rfl ?_
            refine seq_reg ?_
            refine o_assign (v := (.bool false)) rfl ?_
            refine wpList_nil ?_
            refine then_n ?_
            refine wp_ret ?_
            refine blk_r ?_
            refine then_r ?_
            refine then_r ?_
            refine blk_r ?_
            refine then_r ?_
            refine ret1 rfl (show ev _ _ _ = (.bool false) from rfl) ?_
            exact ⟨false, rfl, hS22.done.forget, hP⟩
          · replace hP := hP.2 hb1
            refine d_take (i := 3) (v := (.bool false)) (l' := #[true, true, true, true, false, false, false, false, false, false, false, false, false, false, false, false, false, false, false, false, false, false, false, false, false, false, false, false, false, false, false, false, false, false, false, false, false, false]) rfl (by kernel_rfl) (by kernel_rfl) (by kernel_rfl) rfl rfl (fun _ _ _ h => h) hS22 (fun w hJ K hK => ?_) ?_
            · refine o_move (v := (.bool false)) (congrArg Value.bool (decide_eq_false hb1)) ?_
              exact ⟨rfl, hK⟩
            refine d_take (i := 4) (v := (.slice a4 r4_.length cap4)) (l' := #[true, true, true, true, true, false, false, false, false, false, false, false, false, false, false, false, false, false, false, false, false, false, false, false, false, false, false, false, false, false, false, false, false, false, false, false, false, false]) rfl (by kernel_rfl) (by kernel_rfl) (by kernel_rfl) rfl rfl (fun _ _ _ h => h) hS22 (fun w hJ K hK => ?_) ?_
            · refine o_on rfl rfl ?_
              refine o_move (v := (.slice a4 r4_.length cap4)) rfl ?_
              exact ⟨rfl, hK⟩
            refine d_take (i := 5) (v := (.slice a3 other_2.length cap3)) (l' := #[true, true, true, true, true, true, false, false, false, false, false, false, false, false, false, false, false, false, false, false, false, false, false, false, false, false, false, false, false, false, false, false, false, false, false, false, false, false]) rfl (by kernel_rfl) (by kernel_rfl) (by kernel_rfl) rfl rfl (fun _ _ _ h => h) hS22 (fun w hJ K hK => ?_) ?_
            · refine o_on rfl rfl ?_
              refine o_move (v := (.slice a3 other_2.length cap3)) rfl ?_
              exact ⟨rfl, hK⟩
            refine d_take (i := 6) (v := v7) (l' := #[true, true, true, true, true, true, true, false, false, false, false, false, false, false, false, false, false, false, false, false, false, false, false, false, false, false, false, false, false, false, false, false, false, false, false, false, false, false]) rfl (by kernel_rfl) (by kernel_rfl) (by kernel_rfl) rfl rfl (fun _ _ _ h => h) hS22 (fun w hJ K hK => ?_) ?_
            · refine o_on rfl rfl ?_
              refine o_move (v := v7) rfl ?_
              exact ⟨rfl, hK⟩
            refine d_take (i := 7) (v := (.int .i64 ((i_5 : Nat) : Int))) (l' := #[true, true, true, true, true, true, true, true, false, false, false, false, false, false, false, false, false, false, false, false, false, false, false, false, false, false, false, false, false, false, false, false, false, false, false, false, false, false]) rfl (by kernel_rfl) (by kernel_rfl) (by kernel_rfl) rfl rfl (fun _ _ _ h => h) hS22 (fun w hJ K hK => ?_) ?_
            · refine o_on rfl rfl ?_
              refine o_move (v := (.int .i64 ((i_5 : Nat) : Int))) rfl ?_
              exact ⟨rfl, hK⟩
            obtain ⟨g2, cp2, hv2⟩ := vec_posv (hS22.get (i := 0) rfl) (lt_of_getq hx2)
            refine d_take (i := 8) (v := (.pointer (some ⟨g2, i_5 * 1, none⟩))) (l' := #[true, true, true, true, true, true, true, true, true, false, false, false, false, false, false, false, false, false, false, false, false, false, false, false, false, false, false, false, false, false, false, false, false, false, false, false, false, false]) rfl (by kernel_rfl) (by kernel_rfl) (by kernel_rfl) rfl rfl (fun _ _ _ h => h) hS22 (fun w hJ K hK => ?_) ?_
            · refine o_on rfl rfl ?_
              refine o_iaddr_slice (k := i_5) (a' := ⟨g2, i_5 * 1, none⟩) hv2 rfl rfl (lt_of_getq hx2) Try.underlying29 Try.sizeOf9 (by simp [addr_lit]) ?_
              exact ⟨rfl, hK⟩
            refine d_take (i := 9) (v := (.string x2_)) (l' := #[true, true, true, true, true, true, true, true, true, true, false, false, false, false, false, false, false, false, false, false, false, false, false, false, false, false, false, false, false, false, false, false, false, false, false, false, false, false]) rfl (by kernel_rfl) (by kernel_rfl) (by kernel_rfl) rfl rfl (fun _ _ _ h => h) hS22 (fun w hJ K hK => ?_) ?_
            · refine o_on rfl rfl ?_
              refine o_load (v := (.string x2_)) rfl Try.isAgg9 (vec_cellv encTx_len (j := 0) hv2 (hJ.get (i := 0) rfl) hx2 rfl) ?_
              exact ⟨rfl, hK⟩
            refine d_one (i := 10) (by kernel_rfl) rfl (l' := #[true, true, true, true, true, true, true, true, true, true, true, false, false, false, false, false, false, false, false, false, false, false, false, false, false, false, false, false, false, false, false, false, false, false, false, false, false, false]) rfl ?_
            refine o_on rfl rfl ?_
            obtain ⟨Y8, hK6, hc5⟩ := hP
            refine o_call (args := [(.slice a3 other_2.length cap3), (.string x2_)]) rfl Try.call18 (Calls.mono (w_identity_Members other_2 x2_ (.slice a3 other_2.length cap3) hS22.view (RSl.menc (Sub.trans hsub4 hg4.sub) hr5) hc5) ?_)
            rintro _ w16 ⟨r5_, v9, σ7, rfl, hg5, hr7, hY6⟩
            refine ⟨_, rfl, ?_⟩
            have hS23 := hS22.grow hg5
            replace hP := hK6 r5_ hY6
            obtain ⟨a5, cap5, rfl⟩ := hr7.shape
            refine wpList_nil ?_
            refine ⟨rfl, (hS23.less hS22 hg5.sub), wpJ_weak (J' := fun z => St ⟨w, σ, []⟩ z σ7 [vec v7 9 1 r3_.length ((r3_).flatMap encTx)]) (fun w h => (h.less hS22 hg5.sub).sublist (by first | exact List.nil_sublist _ | simp)) _ _ _ _ ?_⟩
            refine d_one (i := 11) (by kernel_rfl) rfl (l' := #[true, true, true, true, true, true, true, true, true, true, true, true, false, false, false, false, false, false, false, false, false, false, false, false, false, false, false, false, false, false, false, false, false, false, false, false, false, false]) rfl ?_
            refine o_on rfl rfl ?_
            obtain ⟨Y9, hK7, hc6⟩ := hP
            refine o_call (args := [(.slice a4 r4_.length cap4), (.slice a5 r5_.length cap5)]) rfl Try.call19 (Calls.mono (w_ref1_Same r4_ r5_ (.slice a4 r4_.length cap4) (.slice a5 r5_.length cap5) hS23.view (RSl.menc hg5.sub hr6) hr7 hc6) ?_)
            rintro _ w17 ⟨r6_, rfl, hg6, hY7⟩
            refine ⟨_, rfl, ?_⟩
            have hS24 := hS23.grow hg6
            replace hP := hK7 r6_ hY7
            refine wpList_nil ?_
            refine ⟨rfl, hS24, ?_⟩
            refine d_take (i := 12) (v := (.bool (!r6_))) (l' := #[true, true, true, true, true, true, true, true, true, true, true, true, true, false, false, false, false, false, false, false, false, false, false, false, false, false, false, false, false, false, false, false, false, false, false, false, false, false]) rfl (by kernel_rfl) (by kernel_rfl) (by kernel_rfl) rfl rfl (fun _ _ _ h => h) hS24 (fun w hJ K hK => ?_) ?_
            · refine o_on rfl rfl ?_
              refine o_not (r := (!r6_)) rfl rfl ?_
              exact ⟨rfl, hK⟩
            refine d_take (i := 13) (v := (.bool (!r6_))) (l' := #[true, true, true, true, true, true, true, true, true, true, true, true, true, true, false, false, false, false, false, false, false, false, false, false, false, false, false, false, false, false, false, false, false, false, false, false, false, false]) rfl (by kernel_rfl) (by kernel_rfl) (by kernel_rfl) rfl rfl (fun _ _ _ h => h) hS24 (fun w hJ K hK => ?_) ?_
            · refine o_pick_f (v := (.bool (!r6_))) rfl rfl ?_
              exact ⟨rfl, hK⟩
            rcases Bool.eq_false_or_eq_true (r6_) with hb2 | hb2
            · replace hP := hP.1 hb2
              refine d_take (i := 14) (v := (.bool false)) (l' := #[true, true, true, true, true, true, true, true, true, true, true, true, true, true, true, false, false, false, false, false, false, false, false, false, false, false, false, false, false, false, false, false, false, false, false, false, false, false]) rfl (by kernel_rfl) (by kernel_rfl) (by kernel_rfl) rfl rfl (fun _ _ _ h => h) hS24 (fun w hJ K hK => ?_) ?_
              · refine o_move (v := (.bool false)) (congrArg Value.bool (congrArg Bool.not hb2)) ?_
                exact ⟨rfl, hK⟩
              refine d_take (i := 15) (v := (.slice a4 r4_.length cap4)) (l' := #[true, true, true, true, true, true, true, true, true, true, true, true, true, true, true, true, false, false, false, false, false, false, false, false, false, false, false, false, false, false, false, false, false, false, false, false, false, false]) rfl (by kernel_rfl) (by kernel_rfl) (by kernel_rfl) rfl rfl (fun _ _ _ h => h) hS24 (fun w hJ K hK => ?_) ?_
              · refine o_on rfl rfl ?_
                refine o_move (v := (.slice a4 r4_.length cap4)) rfl ?_
                exact ⟨rfl, hK⟩
              refine d_take (i := 16) (v := (.slice a2 r2_.length cap2)) (l' := #[true, true, true, true, true, true, true, true, true, true, true, true, true, true, true, true, true, false, false, false, false, false, false, false, false, false, false, false, false, false, false, false, false, false, false, false, false, false]) rfl (by kernel_rfl) (by kernel_rfl) (by kernel_rfl) rfl rfl (fun _ _ _ h => h) hS24 (fun w hJ K hK => ?_) ?_
              · refine o_on rfl rfl ?_
                refine o_move (v := (.slice a2 r2_.length cap2)) rfl ?_
                exact ⟨rfl, hK⟩
              refine d_take (i := 18) (v := v7) (l' := #[true, true, true, true, true, true, true, true, true, true, true, true, true, true, true, true, true, false, true, false, false, false, false, false, false, false, false, false, false, false, false, false, false, false, false, false, false, false]) rfl (by kernel_rfl) (by kernel_rfl) (by kernel_rfl) rfl rfl (fun _ _ _ h => h) hS24 (fun w hJ K hK => ?_) ?_
              · refine o_on rfl rfl ?_
                refine o_move (v := v7) rfl ?_
                exact ⟨rfl, hK⟩
              refine d_take (i := 19) (v := (.int .i64 ((i_5 : Nat) : Int))) (l' := #[true, true, true, true, true, true, true, true, true, true, true, true, true, true, true, true, true, false, true, true, false, false, false, false, false, false, false, false, false, false, false, false, false, false, false, false, false, false]) rfl (by kernel_rfl) (by kernel_rfl) (by kernel_rfl) rfl rfl (fun _ _ _ h => h) hS24 (fun w hJ K hK => ?_) ?_
              · refine o_on rfl rfl ?_
                refine o_move (v := (.int .i64 ((i_5 : Nat) : Int))) rfl ?_
                exact ⟨rfl, hK⟩
              obtain ⟨g3, cp3, hv3⟩ := vec_posv (hS24.get (i := 0) rfl) (lt_of_getq hx2)
              refine d_take (i := 20) (v := (.pointer (some ⟨g3, i_5 * 1, none⟩))) (l' := #[true, true, true, true, true, true, true, true, true, true, true, true, true, true, true, true, true, false, true, true, true, false, false, false, false, false, false, false, false, false, false, false, false, false, false, false, false, false]) rfl (by kernel_rfl) (by kernel_rfl) (by kernel_rfl) rfl rfl (fun _ _ _ h => h) hS24 (fun w hJ K hK => ?_) ?_
              · refine o_on rfl rfl ?_
                refine o_iaddr_slice (k := i_5) (a' := ⟨g3, i_5 * 1, none⟩) hv3 rfl rfl (lt_of_getq hx2) Try.underlying29 Try.sizeOf9 (by simp [addr_lit]) ?_
                exact ⟨rfl, hK⟩
              refine d_take (i := 21) (v := (.string x2_)) (l' := #[true, true, true, true, true, true, true, true, true, true, true, true, true, true, true, true, true, false, true, true, true, true, false, false, false, false, false, false, false, false, false, false, false, false, false, false, false, false]) rfl (by kernel_rfl) (by kernel_rfl) (by kernel_rfl) rfl rfl (fun _ _ _ h => h) hS24 (fun w hJ K hK => ?_) ?_
              · refine o_on rfl rfl ?_
                refine o_load (v := (.string x2_)) rfl Try.isAgg9 (vec_cellv encTx_len (j := 0) hv3 (hJ.get (i := 0) rfl) hx2 rfl) ?_
                exact ⟨rfl, hK⟩
              refine d_one (i := 17) (by kernel_rfl) rfl (l' := #[true, true, true, true, true, true, true, true, true, true, true, true, true, true, true, true, true, true, true, true, true, true, false, false, false, false, false, false, false, false, false, false, false, false, false, false, false, false]) rfl ?_
              refine o_on rfl rfl ?_
              obtain ⟨Y10, hK8, hc7⟩ := hP
              refine o_call (args := [(.slice a2 r2_.length cap2)]) rfl Try.call21 (Calls.mono (w_identity_Forest r2_ (.slice a2 r2_.length cap2) hS24.view (RSl.menc (Sub.trans (Sub.trans (Sub.trans (Sub.trans hsub1 hsub3) hsub4) hg4.sub) hg5.sub) hr2) hc7) ?_)
              rintro _ w18 ⟨r7_, v10, σ8, rfl, hg7, hr8, hY8⟩
              refine ⟨_, rfl, ?_⟩
              have hS25 := hS24.grow hg7
              replace hP := hK8 r7_ hY8
              obtain ⟨a6, cap6, rfl⟩ := hr8.shape
              refine wpList_nil ?_
              refine ⟨rfl, (hS25.less hS23 hg7.sub), wpJ_weak (J' := fun z => St ⟨w, σ, []⟩ z σ8 [vec v7 9 1 r3_.length ((r3_).flatMap encTx)]) (fun w h => (h.less hS23 hg7.sub).sublist (by first | exact List.nil_sublist _ | simp)) _ _ _ _ ?_⟩
              refine d_one (i := 22) (by kernel_rfl) rfl (l' := #[true, true, true, true, true, true, true, true, true, true, true, true, true, true, true, true, true, true, true, true, true, true, true, false, false, false, false, false, false, false, false, false, false, false, false, false, false, false]) rfl ?_
              refine o_on rfl rfl ?_
              obtain ⟨Y11, hK9, hc8⟩ := hP
              refine o_call (args := [(.slice a6 r7_.length cap6), (.string x2_)]) rfl Try.call18 (Calls.mono (w_identity_Members r7_ x2_ (.slice a6 r7_.length cap6) hS25.view hr8 hc8) ?_)
              rintro _ w19 ⟨r8_, v11, σ9, rfl, hg8, hr9, hY9⟩
              refine ⟨_, rfl, ?_⟩
              have hS26 := hS25.grow hg8
              replace hP := hK9 r8_ hY9
              obtain ⟨a7, cap7, rfl⟩ := hr9.shape
              refine wpList_nil ?_
              refine ⟨rfl, (hS26.less hS25 hg8.sub), wpJ_weak (J' := fun z => St ⟨w, σ, []⟩ z σ9 [vec v7 9 1 r3_.length ((r3_).flatMap encTx)]) (fun w h => (h.less hS25 hg8.sub).sublist (by first | exact List.nil_sublist _ | simp)) _ _ _ _ ?_⟩
              refine d_one (i := 23) (by kernel_rfl) rfl (l' := #[true, true, true, true, true, true, true, true, true, true, true, true, true, true, true, true, true, true, true, true, true, true, true, true, false, false, false, false, false, false, false, false, false, false, false, false, false, false]) rfl ?_
              refine o_on rfl rfl ?_
              obtain ⟨Y12, hK10, hc9⟩ := hP
              refine o_call (args := [(.slice a4 r4_.length cap4), (.slice a7 r8_.length cap7)]) rfl Try.call19 (Calls.mono (w_ref1_Same r4_ r8_ (.slice a4 r4_.length cap4) (.slice a7 r8_.length cap7) hS26.view (RSl.menc (Sub.trans (Sub.trans hg5.sub hg7.sub) hg8.sub) hr6) hr9 hc9) ?_)
              rintro _ w20 ⟨r9_, rfl, hg9, hY10⟩
              refine ⟨_, rfl, ?_⟩
              have hS27 := hS26.grow hg9
              replace hP := hK10 r9_ hY10
              refine wpList_nil ?_
              refine ⟨rfl, hS27, ?_⟩
              refine d_take (i := 24) (v := (.bool (!r9_))) (l' := #[true, true, true, true, true, true, true, true, true, true, true, true, true, true, true, true, true, true, true, true, true, true, true, true, true, false, false, false, false, false, false, false, false, false, false, false, false, false]) rfl (by kernel_rfl) (by kernel_rfl) (by kernel_rfl) rfl rfl (fun _ _ _ h => h) hS27 (fun w hJ K hK => ?_) ?_
              · refine o_on rfl rfl ?_
                refine o_not (r := (!r9_)) rfl rfl ?_
                exact ⟨rfl, hK⟩
              refine d_take (i := 25) (v := (.bool (!r9_))) (l' := #[true, true, true, true, true, true, true, true, true, true, true, true, true, true, true, true, true, true, true, true, true, true, true, true, true, true, false, false, false, false, false, false, false, false, false, false, false, false]) rfl (by kernel_rfl) (by kernel_rfl) (by kernel_rfl) rfl rfl (fun _ _ _ h => h) hS27 (fun w hJ K hK => ?_) ?_
              · refine o_pick_f (v := (.bool (!r9_))) rfl rfl ?_
                exact ⟨rfl, hK⟩
              rcases Bool.eq_false_or_eq_true (r9_) with hb3 | hb3
              · replace hP := hP.1 hb3
                refine d_take (i := 26) (v := (.bool false)) (l' := #[true, true, true, true, true, true, true, true, true, true, true, true, true, true, true, true, true, true, true, true, true, true, true, true, true, true, true, false, false, false, false, false, false, false, false, false, false, false]) rfl (by kernel_rfl) (by kernel_rfl) (by kernel_rfl) rfl rfl (fun _ _ _ h => h) hS27 (fun w hJ K hK => ?_) ?_
                · refine o_move (v := (.bool false)) (congrArg Value.bool (congrArg Bool.not hb3)) ?_
                  exact ⟨rfl, hK⟩
                refine d_take (i := 27) (v := (.slice a3 other_2.length cap3)) (l' := #[true, true, true, true, true, true, true, true, true, true, true, true, true, true, true, true, true, true, true, true, true, true, true, true, true, true, true, true, false, false, false, false, false, false, false, false, false, false]) rfl (by kernel_rfl) (by kernel_rfl) (by kernel_rfl) rfl rfl (fun _ _ _ h => h) hS27 (fun w hJ K hK => ?_) ?_
                · refine o_on rfl rfl ?_
                  refine o_move (v := (.slice a3 other_2.length cap3)) rfl ?_
                  exact ⟨rfl, hK⟩
                refine d_take (i := 28) (v := v7) (l' := #[true, true, true, true, true, true, true, true, true, true, true, true, true, true, true, true, true, true, true, true, true, true, true, true, true, true, true, true, true, false, false, false, false, false, false, false, false, false]) rfl (by kernel_rfl) (by kernel_rfl) (by kernel_rfl) rfl rfl (fun _ _ _ h => h) hS27 (fun w hJ K hK => ?_) ?_
                · refine o_on rfl rfl ?_
                  refine o_move (v := v7) rfl ?_
                  exact ⟨rfl, hK⟩
                refine d_take (i := 29) (v := (.int .i64 ((i_5 : Nat) : Int))) (l' := #[true, true, true, true, true, true, true, true, true, true, true, true, true, true, true, true, true, true, true, true, true, true, true, true, true, true, true, true, true, true, false, false, false, false, false, false, false, false]) rfl (by kernel_rfl) (by kernel_rfl) (by kernel_rfl) rfl rfl (fun _ _ _ h => h) hS27 (fun w hJ K hK => ?_) ?_
                · refine o_on rfl rfl ?_
                  refine o_move (v := (.int .i64 ((i_5 : Nat) : Int))) rfl ?_
                  exact ⟨rfl, hK⟩
                obtain ⟨g4, cp4, hv4⟩ := vec_posv (hS27.get (i := 0) rfl) (lt_of_getq hx2)
                refine d_take (i := 30) (v := (.pointer (some ⟨g4, i_5 * 1, none⟩))) (l' := #[true, true, true, true, true, true, true, true, true, true, true, true, true, true, true, true, true, true, true, true, true, true, true, true, true, true, true, true, true, true, true, false, false, false, false, false, false, false]) rfl (by kernel_rfl) (by kernel_rfl) (by kernel_rfl) rfl rfl (fun _ _ _ h => h) hS27 (fun w hJ K hK => ?_) ?_
                · refine o_on rfl rfl ?_
                  refine o_iaddr_slice (k := i_5) (a' := ⟨g4, i_5 * 1, none⟩) hv4 rfl rfl (lt_of_getq hx2) Try.underlying29 Try.sizeOf9 (by simp [addr_lit]) ?_
                  exact ⟨rfl, hK⟩
                refine d_take (i := 31) (v := (.string x2_)) (l' := #[true, true, true, true, true, true, true, true, true, true, true, true, true, true, true, true, true, true, true, true, true, true, true, true, true, true, true, true, true, true, true, true, false, false, false, false, false, false]) rfl (by kernel_rfl) (by kernel_rfl) (by kernel_rfl) rfl rfl (fun _ _ _ h => h) hS27 (fun w hJ K hK => ?_) ?_
                · refine o_on rfl rfl ?_
                  refine o_load (v := (.string x2_)) rfl Try.isAgg9 (vec_cellv encTx_len (j := 0) hv4 (hJ.get (i := 0) rfl) hx2 rfl) ?_
                  exact ⟨rfl, hK⟩
                refine d_take (i := 33) (v := (.slice a4 r4_.length cap4)) (l' := #[true, true, true, true, true, true, true, true, true, true, true, true, true, true, true, true, true, true, true, true, true, true, true, true, true, true, true, true, true, true, true, true, false, true, false, false, false, false]) rfl (by kernel_rfl) (by kernel_rfl) (by kernel_rfl) rfl rfl (fun _ _ _ h => h) hS27 (fun w hJ K hK => ?_) ?_
                · refine o_on rfl rfl ?_
                  refine o_move (v := (.slice a4 r4_.length cap4)) rfl ?_
                  exact ⟨rfl, hK⟩
                obtain ⟨x3_, hx3, hP⟩ := hP
                obtain ⟨ad2, cs2, ha2, hl5, hr10, hR2, hlt2⟩ := RSl.at hr6 hx3
                cases hR2
                refine d_take (i := 34) (v := (.pointer (some (ad2.add (0 * 1))))) (l' := #[true, true, true, true, true, true, true, true, true, true, true, true, true, true, true, true, true, true, true, true, true, true, true, true, true, true, true, true, true, true, true, true, false, true, true, false, false, false]) rfl (by kernel_rfl) (by kernel_rfl) (by kernel_rfl) rfl rfl (fun _ _ _ h => h) hS27 (fun w hJ K hK => ?_) ?_
                · refine o_on rfl rfl ?_
                  refine o_iaddr_slice (k := 0) (a' := (ad2.add (0 * 1))) (congrArg (fun z => Value.slice z _ _) ha2) rfl rfl hlt2 Try.underlying29 Try.sizeOf9 rfl ?_
                  exact ⟨rfl, hK⟩
                refine d_take (i := 35) (v := (.string x3_)) (l' := #[true, true, true, true, true, true, true, true, true, true, true, true, true, true, true, true, true, true, true, true, true, true, true, true, true, true, true, true, true, true, true, true, false, true, true, true, false, false]) rfl (by kernel_rfl) (by kernel_rfl) (by kernel_rfl) rfl rfl (fun _ _ _ h => h) hS27 (fun w hJ K hK => ?_) ?_
                · refine o_on rfl rfl ?_
                  refine o_load (v := (.string x3_)) rfl Try.isAgg9 (hr10.cell (View.of (Sub.trans (Sub.trans hg5.sub hg7.sub) hg8.sub) hJ.view) 0 rfl rfl) ?_
                  exact ⟨rfl, hK⟩
                refine d_one (i := 32) (by kernel_rfl) rfl (l' := #[true, true, true, true, true, true, true, true, true, true, true, true, true, true, true, true, true, true, true, true, true, true, true, true, true, true, true, true, true, true, true, true, true, true, true, true, false, false]) rfl ?_
                refine o_on rfl rfl ?_
                obtain ⟨Y13, hK11, hc10⟩ := hP
                refine o_call (args := [(.slice a3 other_2.length cap3), (.string x2_)]) rfl Try.call20 (Calls.mono (w_identity_Root other_2 x2_ (.slice a3 other_2.length cap3) hS27.view (RSl.menc (Sub.trans (Sub.trans (Sub.trans (Sub.trans hsub4 hg4.sub) hg5.sub) hg7.sub) hg8.sub) hr5) hc10) ?_)
                rintro _ w21 ⟨r10_, rfl, hg10, hY11⟩
                refine ⟨_, rfl, ?_⟩
                have hS28 := hS27.grow hg10
                replace hP := hK11 r10_ hY11
                refine wpList_nil ?_
                refine ⟨rfl, hS28, ?_⟩
                refine d_take (i := 36) (v := (.bool (!decide (r10_ = x3_)))) (l' := #[true, true, true, true, true, true, true, true, true, true, true, true, true, true, true, true, true, true, true, true, true, true, true, true, true, true, true, true, true, true, true, true, true, true, true, true, true, false]) rfl (by kernel_rfl) (by kernel_rfl) (by kernel_rfl) rfl rfl (fun _ _ _ h => h) hS28 (fun w hJ K hK => ?_) ?_
                · refine o_on rfl rfl ?_
                  refine o_neqs (r := (!decide (r10_ = x3_))) rfl rfl rfl ?_
                  exact ⟨rfl, hK⟩
                refine d_take (i := 37) (v := (.bool (!decide (r10_ = x3_)))) (l' := #[true, true, true, true, true, true, true, true, true, true, true, true, true, true, true, true, true, true, true, true, true, true, true, true, true, true, true, true, true, true, true, true, true, true, true, true, true, true]) rfl (by kernel_rfl) (by kernel_rfl) (by kernel_rfl) rfl rfl (fun _ _ _ h => h) hS28 (fun w hJ K hK => ?_) ?_
                · refine o_pick_f (v := (.bool (!decide (r10_ = x3_)))) rfl rfl ?_
                  exact ⟨rfl, hK⟩
                refine d_done (by kernel_rfl) ?_
                refine then_n ?_
                refine if_nd (r10_ = x3_) rfl (fun ht7 => ?_) (fun ht7 => ?_)
                · replace hP := hP.2 ht7
                  refine seq_reg ?_
                  refine o_assign (v := (.bool false)) rfl ?_
                  refine wpList_nil ?_
                  refine then_n ?_
                  refine wp_ret ?_
                  refine blk_r ?_
                  refine then_r ?_
                  refine then_r ?_
                  refine blk_r ?_
                  refine then_r ?_
                  refine ret1 rfl (show ev _ _ _ = (.bool false) from rfl) ?_
                  exact ⟨false, rfl, hS28.done.forget, hP⟩
                · replace hP := hP.1 ht7
                  refine wp_skip ?_
                  refine blk_n ?_
                  refine then_n ?_
                  refine one_reg ?_
                  refine o_move (v := (.int .i64 ((i_5 : Nat) : Int))) rfl ?_
                  refine o_add (r := ((i_5 + 1 : Nat) : Int)) rfl rfl (nw (by omega) (by omega) (by have := hlen3; omega)) ?_
                  refine o_assign (v := (.int .i64 ((i_5 + 1 : Nat) : Int))) rfl ?_
                  refine wpList_nil ?_
                  refine then_n ?_
                  exact ⟨i_5 + 1, _, rfl, hP, σ9, _, (upd_in rfl (upd_in rfl (upd_in rfl (upd_in rfl rfl)))), hS28, (Sub.trans (Sub.trans (Sub.trans (Sub.trans hsub4 hg4.sub) hg5.sub) hg7.sub) hg8.sub)⟩
              · replace hP := hP.2 (by simp [hb3])
                refine d_take (i := 26) (v := (.bool true)) (l' := #[true, true, true, true, true, true, true, true, true, true, true, true, true, true, true, true, true, true, true, true, true, true, true, true, true, true, true, false, false, false, false, false, false, false, false, false, false, false]) rfl (by kernel_rfl) (by kernel_rfl) (by kernel_rfl) rfl rfl (fun _ _ _ h => h) hS27 (fun w hJ K hK => ?_) ?_
                · refine o_move (v := (.bool true)) (congrArg Value.bool (congrArg Bool.not hb3)) ?_
                  exact ⟨rfl, hK⟩
                refine d_take (i := 27) (v := undef) (l' := #[true, true, true, true, true, true, true, true, true, true, true, true, true, true, true, true, true, true, true, true, true, true, true, true, true, true, true, true, false, false, false, false, false, false, false, false, false, false]) rfl (by kernel_rfl) (by kernel_rfl) (by kernel_rfl) rfl rfl (fun _ _ _ h => h) hS27 (fun w hJ K hK => ?_) ?_
                · refine o_off rfl rfl ?_
                  exact ⟨rfl, hK⟩
                refine d_take (i := 28) (v := undef) (l' := #[true, true, true, true, true, true, true, true, true, true, true, true, true, true, true, true, true, true, true, true, true, true, true, true, true, true, true, true, true, false, false, false, false, false, false, false, false, false]) rfl (by kernel_rfl) (by kernel_rfl) (by kernel_rfl) rfl rfl (fun _ _ _ h => h) hS27 (fun w hJ K hK => ?_) ?_
                · refine o_off rfl rfl ?_
                  exact ⟨rfl, hK⟩
                refine d_take (i := 29) (v := undef) (l' := #[true, true, true, true, true, true, true, true, true, true, true, true, true, true, true, true, true, true, true, true, true, true, true, true, true, true, true, true, true, true, false, false, false, false, false, false, false, false]) rfl (by kernel_rfl) (by kernel_rfl) (by kernel_rfl) rfl rfl (fun _ _ _ h => h) hS27 (fun w hJ K hK => ?_) ?_
                · refine o_off rfl rfl ?_
                  exact ⟨rfl, hK⟩
                refine d_take (i := 30) (v := undef) (l' := #[true, true, true, true, true, true, true, true, true, true, true, true, true, true, true, true, true, true, true, true, true, true, true, true, true, true, true, true, true, true, true, false, false, false, false, false, false, false]) rfl (by kernel_rfl) (by kernel_rfl) (by kernel_rfl) rfl rfl (fun _ _ _ h => h) hS27 (fun w hJ K hK => ?_) ?_
                · refine o_off rfl rfl ?_
                  exact ⟨rfl, hK⟩
                refine d_take (i := 31) (v := undef) (l' := #[true, true, true, true, true, true, true, true, true, true, true, true, true, true, true, true, true, true, true, true, true, true, true, true, true, true, true, true, true, true, true, true, false, false, false, false, false, false]) rfl (by kernel_rfl) (by kernel_rfl) (by kernel_rfl) rfl rfl (fun _ _ _ h => h) hS27 (fun w hJ K hK => ?_) ?_
                · refine o_off rfl rfl ?_
                  exact ⟨rfl, hK⟩
                refine d_take (i := 32) (v := undef) (l' := #[true, true, true, true, true, true, true, true, true, true, true, true, true, true, true, true, true, true, true, true, true, true, true, true, true, true, true, true, true, true, true, true, true, false, false, false, false, false]) rfl (by kernel_rfl) (by kernel_rfl) (by kernel_rfl) rfl rfl (fun _ _ _ h => h) hS27 (fun w hJ K hK => ?_) ?_
                · refine o_off rfl rfl ?_
                  exact ⟨rfl, hK⟩
                refine d_take (i := 33) (v := undef) (l' := #[true, true, true, true, true, true, true, true, true, true, true, true, true, true, true, true, true, true, true, true, true, true, true, true, true, true, true, true, true, true, true, true, true, true, false, false, false, false]) rfl (by kernel_rfl) (by kernel_rfl) (by kernel_rfl) rfl rfl (fun _ _ _ h => h) hS27 (fun w hJ K hK => ?_) ?_
                · refine o_off rfl rfl ?_
                  exact ⟨rfl, hK⟩
                refine d_take (i := 34) (v := undef) (l' := #[true, true, true, true, true, true, true, true, true, true, true, true, true, true, true, true, true, true, true, true, true, true, true, true, true, true, true, true, true, true, true, true, true, true, true, false, false, false]) rfl (by kernel_rfl) (by kernel_rfl) (by kernel_rfl) rfl rfl (fun _ _ _ h => h) hS27 (fun w hJ K hK => ?_) ?_
                · refine o_off rfl rfl ?_
                  exact ⟨rfl, hK⟩
                refine d_take (i := 35) (v := undef) (l' := #[true, true, true, true, true, true, true, true, true, true, true, true, true, true, true, true, true, true, true, true, true, true, true, true, true, true, true, true, true, true, true, true, true, true, true, true, false, false]) rfl (by kernel_rfl) (by kernel_rfl) (by kernel_rfl) rfl rfl (fun _ _ _ h => h) hS27 (fun w hJ K hK => ?_) ?_
                · refine o_off rfl rfl ?_
                  exact ⟨rfl, hK⟩
                refine d_take (i := 36) (v := undef) (l' := #[true, true, true, true, true, true, true, true, true, true, true, true, true, true, true, true, true, true, true, true, true, true, true, true, true, true, true, true, true, true, true, true, true, true, true, true, true, false]) rfl (by kernel_rfl) (by kernel_rfl) (by kernel_rfl) rfl rfl (fun _ _ _ h => h) hS27 (fun w hJ K hK => ?_) ?_
                · refine o_off rfl rfl ?_
                  exact ⟨rfl, hK⟩
                refine d_take (i := 37) (v := (.bool true)) (l' := #[true, true, true, true, true, true, true, true, true, true, true, true, true, true, true, true, true, true, true, true, true, true, true, true, true, true, true, true, true, true, true, true, true, true, true, true, true, true]) rfl (by kernel_rfl) (by kernel_rfl) (by kernel_rfl) rfl rfl (fun _ _ _ h => h) hS27 (fun w hJ K hK => ?_) ?_
                · refine o_pick_t (v := (.bool true)) rfl rfl ?_
                  exact ⟨rfl, hK⟩
                refine d_done (by kernel_rfl) ?_
                refine then_n ?_
                refine if_t rfl ?_
                refine seq_reg ?_
                refine o_assign (v := (.bool false)) rfl ?_
                refine wpList_nil ?_
                refine then_n ?_
                refine wp_ret ?_
                refine blk_r ?_
                refine then_r ?_
                refine then_r ?_
                refine blk_r ?_
                refine then_r ?_
                refine ret1 rfl (show ev _ _ _ = (.bool false) from rfl) ?_
                exact ⟨false, rfl, hS27.done.forget, hP⟩
            · replace hP := hP.2 (by simp [hb2])
              refine d_take (i := 14) (v := (.bool true)) (l' := #[true, true, true, true, true, true, true, true, true, true, true, true, true, true, true, false, false, false, false, false, false, false, false, false, false, false, false, false, false, false, false, false, false, false, false, false, false, false]) rfl (by kernel_rfl) (by kernel_rfl) (by kernel_rfl) rfl rfl (fun _ _ _ h => h) hS24 (fun w hJ K hK => ?_) ?_
              · refine o_move (v := (.bool true)) (congrArg Value.bool (congrArg Bool.not hb2)) ?_
                exact ⟨rfl, hK⟩
              refine d_take (i := 15) (v := undef) (l' := #[true, true, true, true, true, true, true, true, true, true, true, true, true, true, true, true, false, false, false, false, false, false, false, false, false, false, false, false, false, false, false, false, false, false, false, false, false, false]) rfl (by kernel_rfl) (by kernel_rfl) (by kernel_rfl) rfl rfl (fun _ _ _ h => h) hS24 (fun w hJ K hK => ?_) ?_
              · refine o_off rfl rfl ?_
                exact ⟨rfl, hK⟩
              refine d_take (i := 16) (v := undef) (l' := #[true, true, true, true, true, true, true, true, true, true, true, true, true, true, true, true, true, false, false, false, false, false, false, false, false, false, false, false, false, false, false, false, false, false, false, false, false, false]) rfl (by kernel_rfl) (by kernel_rfl) (by kernel_rfl) rfl rfl (fun _ _ _ h => h) hS24 (fun w hJ K hK => ?_) ?_
              · refine o_off rfl rfl ?_
                exact ⟨rfl, hK⟩
              refine d_take (i := 17) (v := undef) (l' := #[true, true, true, true, true, true, true, true, true, true, true, true, true, true, true, true, true, true, false, false, false, false, false, false, false, false, false, false, false, false, false, false, false, false, false, false, false, false]) rfl (by kernel_rfl) (by kernel_rfl) (by kernel_rfl) rfl rfl (fun _ _ _ h => h) hS24 (fun w hJ K hK => ?_) ?_
              · refine o_off rfl rfl ?_
                exact ⟨rfl, hK⟩
              refine d_take (i := 18) (v := undef) (l' := #[true, true, true, true, true, true, true, true, true, true, true, true, true, true, true, true, true, true, true, false, false, false, false, false, false, false, false, false, false, false, false, false, false, false, false, false, false, false]) rfl (by kernel_rfl) (by kernel_rfl) (by kernel_rfl) rfl rfl (fun _ _ _ h => h) hS24 (fun w hJ K hK => ?_) ?_
              · refine o_off rfl rfl ?_
                exact ⟨rfl, hK⟩
              refine d_take (i := 19) (v := undef) (l' := #[true, true, true, true, true, true, true, true, true, true, true, true, true, true, true, true, true, true, true, true, false, false, false, false, false, false, false, false, false, false, false, false, false, false, false, false, false, false]) rfl (by kernel_rfl) (by kernel_rfl) (by kernel_rfl) rfl rfl (fun _ _ _ h => h) hS24 (fun w hJ K hK => ?_) ?_
              · refine o_off rfl rfl ?_
                exact ⟨rfl, hK⟩
              refine d_take (i := 20) (v := undef) (l' := #[true, true, true, true, true, true, true, true, true, true, true, true, true, true, true, true, true, true, true, true, true, false, false, false, false, false, false, false, false, false, false, false, false, false, false, false, false, false]) rfl (by kernel_rfl) (by kernel_rfl) (by kernel_rfl) rfl rfl (fun _ _ _ h => h) hS24 (fun w hJ K hK => ?_) ?_
              · refine o_off rfl rfl ?_
                exact ⟨rfl, hK⟩
              refine d_take (i := 21) (v := undef) (l' := #[true, true, true, true, true, true, true, true, true, true, true, true, true, true, true, true, true, true, true, true, true, true, false, false, false, false, false, false, false, false, false, false, false, false, false, false, false, false]) rfl (by kernel_rfl) (by kernel_rfl) (by kernel_rfl) rfl rfl (fun _ _ _ h => h) hS24 (fun w hJ K hK => ?_) ?_
              · refine o_off rfl rfl ?_
                exact ⟨rfl, hK⟩
              refine d_take (i := 22) (v := undef) (l' := #[true, true, true, true, true, true, true, true, true, true, true, true, true, true, true, true, true, true, true, true, true, true, true, false, false, false, false, false, false, false, false, false, false, false, false, false, false, false]) rfl (by kernel_rfl) (by kernel_rfl) (by kernel_rfl) rfl rfl (fun _ _ _ h => h) hS24 (fun w hJ K hK => ?_) ?_
              · refine o_off rfl rfl ?_
                exact ⟨rfl, hK⟩
              refine d_take (i := 23) (v := undef) (l' := #[true, true, true, true, true, true, true, true, true, true, true, true, true, true, true, true, true, true, true, true, true, true, true, true, false, false, false, false, false, false, false, false, false, false, false, false, false, false]) rfl (by kernel_rfl) (by kernel_rfl) (by kernel_rfl) rfl rfl (fun _ _ _ h => h) hS24 (fun w hJ K hK => ?_) ?_
              · refine o_off rfl rfl ?_
                exact ⟨rfl, hK⟩
              refine d_take (i := 24) (v := undef) (l' := #[true, true, true, true, true, true, true, true, true, true, true, true, true, true, true, true, true, true, true, true, true, true, true, true, true, false, false, false, false, false, false, false, false, false, false, false, false, false]) rfl (by kernel_rfl) (by kernel_rfl) (by kernel_rfl) rfl rfl (fun _ _ _ h => h) hS24 (fun w hJ K hK => ?_) ?_
              · refine o_off rfl rfl ?_
                exact ⟨rfl, hK⟩
              refine d_take (i := 25) (v := (.bool true)) (l' := #[true, true, true, true, true, true, true, true, true, true, true, true, true, true, true, true, true, true, true, true, true, true, true, true, true, true, false, false, false, false, false, false, false, false, false, false, false, false]) rfl (by kernel_rfl) (by kernel_rfl) (by kernel_rfl) rfl rfl (fun _ _ _ h => h) hS24 (fun w hJ K hK => ?_) ?_
              · refine o_pick_t (v := (.bool true)) rfl rfl ?_
                exact ⟨rfl, hK⟩
              refine d_take (i := 26) (v := (.bool true)) (l' := #[true, true, true, true, true, true, true, true, true, true, true, true, true, true, true, true, true, true, true, true, true, true, true, true, true, true, true, false, false, false, false, false, false, false, false, false, false, false]) rfl (by kernel_rfl) (by kernel_rfl) (by kernel_rfl) rfl rfl (fun _ _ _ h => h) hS24 (fun w hJ K hK => ?_) ?_
              · refine o_move (v := (.bool true)) rfl ?_
                exact ⟨rfl, hK⟩
              refine d_take (i := 27) (v := undef) (l' := #[true, true, true, true, true, true, true, true, true, true, true, true, true, true, true, true, true, true, true, true, true, true, true, true, true, true, true, true, false, false, false, false, false, false, false, false, false, false]) rfl (by kernel_rfl) (by kernel_rfl) (by kernel_rfl) rfl rfl (fun _ _ _ h => h) hS24 (fun w hJ K hK => ?_) ?_
              · refine o_off rfl rfl ?_
                exact ⟨rfl, hK⟩
              refine d_take (i := 28) (v := undef) (l' := #[true, true, true, true, true, true, true, true, true, true, true, true, true, true, true, true, true, true, true, true, true, true, true, true, true, true, true, true, true, false, false, false, false, false, false, false, false, false]) rfl (by kernel_rfl) (by kernel_rfl) (by kernel_rfl) rfl rfl (fun _ _ _ h => h) hS24 (fun w hJ K hK => ?_) ?_
              · refine o_off rfl rfl ?_
                exact ⟨rfl, hK⟩
              refine d_take (i := 29) (v := undef) (l' := #[true, true, true, true, true, true, true, true, true, true, true, true, true, true, true, true, true, true, true, true, true, true, true, true, true, true, true, true, true, true, false, false, false, false, false, false, false, false]) rfl (by kernel_rfl) (by kernel_rfl) (by kernel_rfl) rfl rfl (fun _ _ _ h => h) hS24 (fun w hJ K hK => ?_) ?_
              · refine o_off rfl rfl ?_
                exact ⟨rfl, hK⟩
              refine d_take (i := 30) (v := undef) (l' := #[true, true, true, true, true, true, true, true, true, true, true, true, true, true, true, true, true, true, true, true, true, true, true, true, true, true, true, true, true, true, true, false, false, false, false, false, false, false]) rfl (by kernel_rfl) (by kernel_rfl) (by kernel_rfl) rfl rfl (fun _ _ _ h => h) hS24 (fun w hJ K hK => ?_) ?_
              · refine o_off rfl rfl ?_
                exact ⟨rfl, hK⟩
              refine d_take (i := 31) (v := undef) (l' := #[true, true, true, true, true, true, true, true, true, true, true, true, true, true, true, true, true, true, true, true, true, true, true, true, true, true, true, true, true, true, true, true, false, false, false, false, false, false]) rfl (by kernel_rfl) (by kernel_rfl) (by kernel_rfl) rfl rfl (fun _ _ _ h => h) hS24 (fun w hJ K hK => ?_) ?_
              · refine o_off rfl rfl ?_
                exact ⟨rfl, hK⟩
              refine d_take (i := 32) (v := undef) (l' := #[true, true, true, true, true, true, true, true, true, true, true, true, true, true, true, true, true, true, true, true, true, true, true, true, true, true, true, true, true, true, true, true, true, false, false, false, false, false]) rfl (by kernel_rfl) (by kernel_rfl) (by kernel_rfl) rfl rfl (fun _ _ _ h => h) hS24 (fun w hJ K hK => ?_) ?_
              · refine o_off rfl rfl ?_
                exact ⟨rfl, hK⟩
              refine d_take (i := 33) (v := undef) (l' := #[true, true, true, true, true, true, true, true, true, true, true, true, true, true, true, true, true, true, true, true, true, true, true, true, true, true, true, true, true, true, true, true, true, true, false, false, false, false]) rfl (by kernel_rfl) (by kernel_rfl) (by kernel_rfl) rfl rfl (fun _ _ _ h => h) hS24 (fun w hJ K hK => ?_) ?_
              · refine o_off rfl rfl ?_
                exact ⟨rfl, hK⟩
              refine d_take (i := 34) (v := undef) (l' := #[true, true, true, true, true, true, true, true, true, true, true, true, true, true, true, true, true, true, true, true, true, true, true, true, true, true, true, true, true, true, true, true, true, true, true, false, false, false]) rfl (by kernel_rfl) (by kernel_rfl) (by kernel_rfl) rfl rfl (fun _ _ _ h => h) hS24 (fun w hJ K hK => ?_) ?_
              · refine o_off rfl rfl ?_
                exact ⟨rfl, hK⟩
              refine d_take (i := 35) (v := undef) (l' := #[true, true, true, true, true, true, true, true, true, true, true, true, true, true, true, true, true, true, true, true, true, true, true, true, true, true, true, true, true, true, true, true, true, true, true, true, false, false]) rfl (by kernel_rfl) (by kernel_rfl) (by kernel_rfl) rfl rfl (fun _ _ _ h => h) hS24 (fun w hJ K hK => ?_) ?_
              · refine o_off rfl rfl ?_
                exact ⟨rfl, hK⟩
              refine d_take (i := 36) (v := undef) (l' := #[true, true, true, true, true, true, true, true, true, true, true, true, true, true, true, true, true, true, true, true, true, true, true, true, true, true, true, true, true, true, true, true, true, true, true, true, true, false]) rfl (by kernel_rfl) (by kernel_rfl) (by kernel_rfl) rfl rfl (fun _ _ _ h => h) hS24 (fun w hJ K hK => ?_) ?_
              · refine o_off rfl rfl ?_
                exact ⟨rfl, hK⟩
              refine d_take (i := 37) (v := (.bool true)) (l' := #[true, true, true, true, true, true, true, true, true, true, true, true, true, true, true, true, true, true, true, true, true, true, true, true, true, true, true, true, true, true, true, true, true, true, true, true, true, true]) rfl (by kernel_rfl) (by kernel_rfl) (by kernel_rfl) rfl rfl (fun _ _ _ h => h) hS24 (fun w hJ K hK => ?_) ?_
              · refine o_pick_t (v := (.bool true)) rfl rfl ?_
                exact ⟨rfl, hK⟩
              refine d_done (by kernel_rfl) ?_
              refine then_n ?_
              refine if_t rfl ?_
              refine seq_reg ?_
              refine o_assign (v := (.bool false)) rfl ?_
              refine wpList_nil ?_
              refine then_n ?_
              refine wp_ret ?_
              refine blk_r ?_
              refine then_r ?_
              refine then_r ?_
              refine blk_r ?_
              refine then_r ?_
              refine ret1 rfl (show ev _ _ _ = (.bool false) from rfl) ?_
              exact ⟨false, rfl, hS24.done.forget, hP⟩
        · replace hP := hP.2 ht6
          refine wp_exit ?_
          refine then_e ?_
          refine then_e ?_
          refine blk_hit ?_
          refine then_n ?_
          refine seq_reg ?_
          refine o_assign (v := (.bool true)) rfl ?_
          refine wpList_nil ?_
          refine then_n ?_
          refine wp_ret ?_
          refine ret1 rfl (show ev _ _ _ = (.bool true) from rfl) ?_
          exact ⟨true, rfl, hS20.done.forget, hP⟩

end Go.Proofs.Ytehmnkholidanaa
