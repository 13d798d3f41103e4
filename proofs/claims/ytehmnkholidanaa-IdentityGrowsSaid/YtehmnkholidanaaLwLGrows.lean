/- A call does what its plain meaning says, and leaves the memory that was there as it was: law26_IdentityGrows. -/
import Derived.Test.YtehmnkholidanaaRows
import Derived.Test.YtehmnkholidanaaFlLift
import Derived.Test.YtehmnkholidanaaPuLGrows
import Derived.KernelRfl
import Derived.Test.YtehmnkholidanaaLwB
namespace Go.Proofs.Ytehmnkholidanaa
open Go Go.RowKit Go.Fl
set_option maxHeartbeats 2000000 in
theorem w_law26_IdentityGrows {σ : Hv} {w : World} (l_p : (List UInt8)) (a_p : Int) (b_p : Int) (v1 : Value) {K : Bool → Prop} (hV : View σ w) (hr1 : RSl 1 RU8 σ v1 l_p) (hP : P_law26_IdentityGrows l_p a_p b_p K) :
    Calls Try.prog 3 #[v1, (.int .u8 a_p), (.int .u8 b_p)] w (fun e w1 => ∃ (r1 : Bool), e = .returned (.bool (r1)) ∧ Grow [] σ w σ w1 ∧ K r1) := by
  unfold P_law26_IdentityGrows at hP
  obtain ⟨a1, cap1, rfl⟩ := hr1.shape
  refine enter Try.func3 rfl rfl rfl ?_
  have hS := St.start hV
  refine seq_reg ?_
  refine o_assign (v := (.bool false)) rfl ?_
  refine wpList_nil ?_
  refine then_n ?_
  refine wp_seq ?_
  refine seq_reg ?_
  obtain ⟨Y1, hK1, hc1⟩ := hP
  refine o_call (args := []) rfl Try.call11 (Calls.mono (w_law26_awake hS.view hc1) ?_)
  rintro _ w1 ⟨r1_, rfl, hg1, hY1⟩
  refine ⟨_, rfl, ?_⟩
  have hS1 := hS.grow hg1
  replace hP := hK1 r1_ hY1
  refine o_not (r := (!r1_)) rfl rfl ?_
  refine wpList_nil ?_
  refine then_n ?_
  refine if_nb rfl (fun ht1 => ?_) (fun ht1 => ?_)
  · replace hP := hP.2 (by simp [ht1])
    refine seq_reg ?_
    refine o_assign (v := (.bool false)) rfl ?_
    refine wpList_nil ?_
    refine then_n ?_
    refine wp_ret ?_
    refine then_r ?_
    refine ret1 rfl (show ev _ _ _ = (.bool false) from rfl) ?_
    exact ⟨false, rfl, hS1.done.forget, hP⟩
  · replace hP := hP.1 ht1
    refine wp_skip ?_
    refine then_n ?_
    refine wp_seq ?_
    refine seq_reg ?_
    refine o_move (v := (.slice a1 l_p.length cap1)) rfl ?_
    refine o_len_slice rfl Try.underlying22 ?_
    have hlen1 := RSl.len63 hr1
    replace hP := hP hlen1
    refine o_gtr (r := (decide ((60 : Int) < ((l_p.length : Nat) : Int)))) rfl rfl rfl ?_
    refine wpList_nil ?_
    refine then_n ?_
    refine if_d ((60 : Int) < ((l_p.length : Nat) : Int)) rfl (fun ht2 => ?_) (fun ht2 => ?_)
    · replace hP := hP.1 ht2
      refine seq_reg ?_
      refine o_assign (v := (.bool true)) rfl ?_
      refine wpList_nil ?_
      refine then_n ?_
      refine wp_ret ?_
      refine then_r ?_
      refine ret1 rfl (show ev _ _ _ = (.bool true) from rfl) ?_
      exact ⟨true, rfl, hS1.done.forget, hP⟩
    · replace hP := hP.2 ht2
      refine wp_skip ?_
      refine then_n ?_
      refine seq_reg ?_
      refine o_move (v := (.slice a1 l_p.length cap1)) rfl ?_
      obtain ⟨Y2, hK2, hc2⟩ := hP
      refine o_call (args := [(.slice a1 l_p.length cap1), (.bool true)]) rfl Try.call12 (Calls.mono (w_data_Links l_p true (.slice a1 l_p.length cap1) hS1.view hr1 hc2) ?_)
      rintro _ w2 ⟨r2_, v2, σ1, rfl, hg2, hr2, hY2⟩
      refine ⟨_, rfl, ?_⟩
      have hS2 := hS1.grow hg2
      replace hP := hK2 r2_ hY2
      obtain ⟨a2, cap2, rfl⟩ := hr2.shape
      refine o_assign (v := (.slice a2 r2_.length cap2)) rfl ?_
      refine wpList_nil ?_
      refine then_n ?_
      refine seq_reg ?_
      refine o_move (v := (.int .u8 a_p)) rfl ?_
      obtain ⟨hi1, hP⟩ := hP
      refine o_conv (r := a_p) rfl Try.underlying5 Try.underlying3 (nwi rfl hi1) ?_
      obtain ⟨Y3, hK3, hc3⟩ := hP
      refine o_call (args := [(.int .i64 a_p)]) rfl Try.call13 (Calls.mono (w_data_Id a_p hS2.view hc3) ?_)
      rintro _ w3 ⟨r3_, rfl, hg3, hY3⟩
      refine ⟨_, rfl, ?_⟩
      have hS3 := hS2.grow hg3
      replace hP := hK3 r3_ hY3
      refine o_move (v := (.int .u8 b_p)) rfl ?_
      obtain ⟨hi2, hP⟩ := hP
      refine o_conv (r := b_p) rfl Try.underlying5 Try.underlying3 (nwi rfl hi2) ?_
      obtain ⟨Y4, hK4, hc4⟩ := hP
      refine o_call (args := [(.int .i64 b_p)]) rfl Try.call13 (Calls.mono (w_data_Id b_p hS3.view hc4) ?_)
      rintro _ w4 ⟨r4_, rfl, hg4, hY4⟩
      refine ⟨_, rfl, ?_⟩
      have hS4 := hS3.grow hg4
      replace hP := hK4 r4_ hY4
      refine o_build (v := (.agg #[(.string r3_), (.string r4_), (.int .i64 (90 : Int))])) (fun _ => by kernel_rfl) ?_
      refine o_alloc (cs := [(.string (⟨#[]⟩ : ByteArray)), (.string (⟨#[]⟩ : ByteArray)), (.int .i64 (0 : Int))]) hS4 Try.zeroValue28 rfl ?_
      intro b1 w5 hS5
      refine o_store (T := 28) (vs := [(.string r3_), (.string r4_), (.int .i64 (90 : Int))]) (cs' := [(.string r3_), (.string r4_), (.int .i64 (90 : Int))]) (ms' := [blk b1 28 [(.string r3_), (.string r4_), (.int .i64 (90 : Int))]]) (i := 0) hS5 rfl rfl rfl Try.sizeOf28 rfl (ones rfl) rfl (Nat.le_of_ble_eq_true rfl) rfl rfl ?_
      intro w6 hS6
      refine wpList_nil ?_
      refine then_n ?_
      obtain ⟨Y5, hK5, hP⟩ := hP
      refine cut (fun f z => ∃ (more_1 : (List Lk.L3)) (v3 : Value) (σ2 : Hv) (g : Fr), Y5 more_1 ∧ f = (upd (upd (upd g 7 (.slice a2 r2_.length cap2)) 8 (.pointer (some ⟨b1, 0, none⟩))) 9 v3) ∧ St ⟨w, σ, []⟩ z σ2 [vec v3 28 3 more_1.length ((more_1).flatMap encLk), blk b1 28 [(.string r3_), (.string r4_), (.int .i64 (90 : Int))]] ∧ Sub σ1 σ2 ∧ v3.oneCell' = true ∧ Sml more_1.length) ?_ ?_
      · refine d_reg (fun z => St ⟨w, σ, []⟩ z σ1 [blk b1 28 [(.string r3_), (.string r4_), (.int .i64 (90 : Int))]]) (by kernel_rfl) rfl rfl ?_
        have hS7 := hS6.drew
        refine d_take (i := 1) (v := (.slice a2 r2_.length cap2)) (l' := #[false, true, false, false, false, false, false]) rfl (by kernel_rfl) (by kernel_rfl) (by kernel_rfl) rfl rfl (fun _ _ _ h => h) hS7 (fun w hJ K hK => ?_) ?_
        · refine o_move (v := (.slice a2 r2_.length cap2)) rfl ?_
          exact ⟨rfl, hK⟩
        refine d_take (i := 3) (v := (.agg #[(.string r3_), (.string r4_), (.int .i64 (90 : Int))])) (l' := #[false, true, false, true, false, false, false]) rfl (by kernel_rfl) (by kernel_rfl) (by kernel_rfl) rfl rfl (fun _ _ _ h => h) hS7 (fun w hJ K hK => ?_) ?_
        · refine o_loadA (cs := [(.string r3_), (.string r4_), (.int .i64 (90 : Int))]) rfl Try.isAgg28 Try.sizeOf28 rfl (blk_row (hJ.get (i := 0) rfl)) ?_
          exact ⟨rfl, hK⟩
        refine d_two (i := 0) (j := 4) (by kernel_rfl) rfl rfl (li := #[true, true, false, true, false, false, false]) (lj := #[false, true, false, true, true, false, false]) rfl rfl ?_ ?_
        · refine o_bslice (cs := []) (e := 28) hS7 (fun _ => by kernel_rfl) ?_
          intro b2 w7 hS8
          refine wpList_nil ?_
          refine ⟨rfl, (hS8.sublist (by first | exact List.nil_sublist _ | simp)), ?_⟩
          refine d_two (i := 2) (j := 4) (by kernel_rfl) rfl rfl (li := #[true, true, true, true, false, false, false]) (lj := #[true, true, false, true, true, false, false]) rfl rfl ?_ ?_
          · have hS9 := hS8.asVec (i := 0) (ms' := [vec (.slice (some ⟨b2, 0, none⟩) 0 0) 28 3 0 [], blk b1 28 [(.string r3_), (.string r4_), (.int .i64 (90 : Int))]]) (size := 3) rfl rfl (by unfold maxLen; omega) rfl
            obtain ⟨hsm1, hP⟩ := hP
            refine o_appR (enc := encLk) (l := r2_) (Ms := fun v4 => [vec v4 28 3 r2_.length ((r2_).flatMap encLk), blk b1 28 [(.string r3_), (.string r4_), (.int .i64 (90 : Int))]]) (k' := r2_.length) (xs' := (r2_).flatMap encLk) Try.underlying24 Try.type28 rfl rfl (bytes := 40) rfl rfl (Nat.succ_pos _) hS9 rfl (q := 0) rfl rfl hr2 hS9.view encLk_len encLk_one hsm1 (by omega) (by first | rfl | simp) (List.nil_append _) (fun _ => rfl) ?_
            intro v4 w8 ho2 hS10
            refine wpList_nil ?_
            refine ⟨rfl, (hS10.sublist (by first | exact List.nil_sublist _ | simp)), ?_⟩
            refine d_one (i := 4) (by kernel_rfl) rfl (l' := #[true, true, true, true, true, false, false]) rfl ?_
            refine o_bslice (cs := [(.string r3_), (.string r4_), (.int .i64 (90 : Int))]) (e := 28) hS10 (fun _ => by kernel_rfl) ?_
            intro b3 w9 hS11
            refine wpList_nil ?_
            refine ⟨rfl, (hS11.sublist (by first | exact List.nil_sublist _ | simp)), ?_⟩
            refine d_one (i := 5) (by kernel_rfl) rfl (l' := #[true, true, true, true, true, true, false]) rfl ?_
            obtain ⟨hsm2, hP⟩ := hP
            refine o_app (Ms := fun v5 => [blk b3 28 [(.string r3_), (.string r4_), (.int .i64 (90 : Int))], vec v5 28 3 ((r2_ ++ [(r3_, r4_, (90 : Int))]).length) ((r2_ ++ [(r3_, r4_, (90 : Int))]).flatMap encLk), blk b1 28 [(.string r3_), (.string r4_), (.int .i64 (90 : Int))]]) (k' := (r2_ ++ [(r3_, r4_, (90 : Int))]).length) (xs' := (r2_ ++ [(r3_, r4_, (90 : Int))]).flatMap encLk) Try.underlying24 Try.type28 rfl rfl (bytes := 40) rfl rfl (Nat.succ_pos _) hS11 rfl (q := 1) rfl rfl rfl (blk_row (hS11.get (i := 0) rfl)) (ones rfl) hsm2 (by omega) (by first | rfl | simp) (by simp [encLk]) (fun _ => rfl) ?_
            intro v5 w10 ho3 hS12
            have hS13 := hS12.drop 0 (ms' := [vec v5 28 3 ((r2_ ++ [(r3_, r4_, (90 : Int))]).length) ((r2_ ++ [(r3_, r4_, (90 : Int))]).flatMap encLk), blk b1 28 [(.string r3_), (.string r4_), (.int .i64 (90 : Int))]]) rfl
            refine wpList_nil ?_
            refine ⟨rfl, (hS13.sublist (by first | exact List.nil_sublist _ | simp)), wpJ_weak (J' := fun z => St ⟨w, σ, []⟩ z σ1 [vec v5 28 3 ((r2_ ++ [(r3_, r4_, (90 : Int))]).length) ((r2_ ++ [(r3_, r4_, (90 : Int))]).flatMap encLk), blk b1 28 [(.string r3_), (.string r4_), (.int .i64 (90 : Int))]]) (fun w h => h.sublist (by first | exact List.nil_sublist _ | simp)) _ _ _ _ ?_⟩
            refine d_take (i := 6) (v := v5) (l' := #[true, true, true, true, true, true, true]) rfl (by kernel_rfl) (by kernel_rfl) (by kernel_rfl) rfl rfl (fun _ _ _ h => h) hS13 (fun w hJ K hK => ?_) ?_
            · refine o_assign (v := v5) rfl ?_
              exact ⟨rfl, hK⟩
            refine d_done (by kernel_rfl) ?_
            refine then_n ?_
            exact ⟨_, rfl, r2_ ++ [(r3_, r4_, (90 : Int))], v5, σ1, _, hP, (upd_in rfl (upd_in rfl (upd_in rfl rfl))), hS13, (Sub.refl _), ho3, hsm2⟩
          · refine o_bslice (cs := [(.string r3_), (.string r4_), (.int .i64 (90 : Int))]) (e := 28) hS8 (fun _ => by kernel_rfl) ?_
            intro b3 w8 hS9
            refine wpList_nil ?_
            refine ⟨rfl, (hS9.sublist (by first | exact List.nil_sublist _ | simp)), ?_⟩
            refine d_one (i := 2) (by kernel_rfl) rfl (l' := #[true, true, true, true, true, false, false]) rfl ?_
            have hS10 := hS9.asVec (i := 1) (ms' := [blk b3 28 [(.string r3_), (.string r4_), (.int .i64 (90 : Int))], vec (.slice (some ⟨b2, 0, none⟩) 0 0) 28 3 0 [], blk b1 28 [(.string r3_), (.string r4_), (.int .i64 (90 : Int))]]) (size := 3) rfl rfl (by unfold maxLen; omega) rfl
            obtain ⟨hsm1, hP⟩ := hP
            refine o_appR (enc := encLk) (l := r2_) (Ms := fun v4 => [blk b3 28 [(.string r3_), (.string r4_), (.int .i64 (90 : Int))], vec v4 28 3 r2_.length ((r2_).flatMap encLk), blk b1 28 [(.string r3_), (.string r4_), (.int .i64 (90 : Int))]]) (k' := r2_.length) (xs' := (r2_).flatMap encLk) Try.underlying24 Try.type28 rfl rfl (bytes := 40) rfl rfl (Nat.succ_pos _) hS10 rfl (q := 1) rfl rfl hr2 hS10.view encLk_len encLk_one hsm1 (by omega) (by first | rfl | simp) (List.nil_append _) (fun _ => rfl) ?_
            intro v4 w9 ho2 hS11
            refine wpList_nil ?_
            refine ⟨rfl, (hS11.sublist (by first | exact List.nil_sublist _ | simp)), ?_⟩
            refine d_one (i := 5) (by kernel_rfl) rfl (l' := #[true, true, true, true, true, true, false]) rfl ?_
            obtain ⟨hsm2, hP⟩ := hP
            refine o_app (Ms := fun v5 => [blk b3 28 [(.string r3_), (.string r4_), (.int .i64 (90 : Int))], vec v5 28 3 ((r2_ ++ [(r3_, r4_, (90 : Int))]).length) ((r2_ ++ [(r3_, r4_, (90 : Int))]).flatMap encLk), blk b1 28 [(.string r3_), (.string r4_), (.int .i64 (90 : Int))]]) (k' := (r2_ ++ [(r3_, r4_, (90 : Int))]).length) (xs' := (r2_ ++ [(r3_, r4_, (90 : Int))]).flatMap encLk) Try.underlying24 Try.type28 rfl rfl (bytes := 40) rfl rfl (Nat.succ_pos _) hS11 rfl (q := 1) rfl rfl rfl (blk_row (hS11.get (i := 0) rfl)) (ones rfl) hsm2 (by omega) (by first | rfl | simp) (by simp [encLk]) (fun _ => rfl) ?_
            intro v5 w10 ho3 hS12
            have hS13 := hS12.drop 0 (ms' := [vec v5 28 3 ((r2_ ++ [(r3_, r4_, (90 : Int))]).length) ((r2_ ++ [(r3_, r4_, (90 : Int))]).flatMap encLk), blk b1 28 [(.string r3_), (.string r4_), (.int .i64 (90 : Int))]]) rfl
            refine wpList_nil ?_
            refine ⟨rfl, (hS13.sublist (by first | exact List.nil_sublist _ | simp)), wpJ_weak (J' := fun z => St ⟨w, σ, []⟩ z σ1 [vec v5 28 3 ((r2_ ++ [(r3_, r4_, (90 : Int))]).length) ((r2_ ++ [(r3_, r4_, (90 : Int))]).flatMap encLk), blk b1 28 [(.string r3_), (.string r4_), (.int .i64 (90 : Int))]]) (fun w h => h.sublist (by first | exact List.nil_sublist _ | simp)) _ _ _ _ ?_⟩
            refine d_take (i := 6) (v := v5) (l' := #[true, true, true, true, true, true, true]) rfl (by kernel_rfl) (by kernel_rfl) (by kernel_rfl) rfl rfl (fun _ _ _ h => h) hS13 (fun w hJ K hK => ?_) ?_
            · refine o_assign (v := v5) rfl ?_
              exact ⟨rfl, hK⟩
            refine d_done (by kernel_rfl) ?_
            refine then_n ?_
            exact ⟨_, rfl, r2_ ++ [(r3_, r4_, (90 : Int))], v5, σ1, _, hP, (upd_in rfl (upd_in rfl (upd_in rfl rfl))), hS13, (Sub.refl _), ho3, hsm2⟩
        · refine o_bslice (cs := [(.string r3_), (.string r4_), (.int .i64 (90 : Int))]) (e := 28) hS7 (fun _ => by kernel_rfl) ?_
          intro b2 w7 hS8
          refine wpList_nil ?_
          refine ⟨rfl, (hS8.sublist (by first | exact List.nil_sublist _ | simp)), ?_⟩
          refine d_one (i := 0) (by kernel_rfl) rfl (l' := #[true, true, false, true, true, false, false]) rfl ?_
          refine o_bslice (cs := []) (e := 28) hS8 (fun _ => by kernel_rfl) ?_
          intro b3 w8 hS9
          refine wpList_nil ?_
          refine ⟨rfl, (hS9.sublist (by first | exact List.nil_sublist _ | simp)), ?_⟩
          refine d_one (i := 2) (by kernel_rfl) rfl (l' := #[true, true, true, true, true, false, false]) rfl ?_
          have hS10 := hS9.asVec (i := 0) (ms' := [vec (.slice (some ⟨b3, 0, none⟩) 0 0) 28 3 0 [], blk b2 28 [(.string r3_), (.string r4_), (.int .i64 (90 : Int))], blk b1 28 [(.string r3_), (.string r4_), (.int .i64 (90 : Int))]]) (size := 3) rfl rfl (by unfold maxLen; omega) rfl
          obtain ⟨hsm1, hP⟩ := hP
          refine o_appR (enc := encLk) (l := r2_) (Ms := fun v4 => [vec v4 28 3 r2_.length ((r2_).flatMap encLk), blk b2 28 [(.string r3_), (.string r4_), (.int .i64 (90 : Int))], blk b1 28 [(.string r3_), (.string r4_), (.int .i64 (90 : Int))]]) (k' := r2_.length) (xs' := (r2_).flatMap encLk) Try.underlying24 Try.type28 rfl rfl (bytes := 40) rfl rfl (Nat.succ_pos _) hS10 rfl (q := 0) rfl rfl hr2 hS10.view encLk_len encLk_one hsm1 (by omega) (by first | rfl | simp) (List.nil_append _) (fun _ => rfl) ?_
          intro v4 w9 ho2 hS11
          refine wpList_nil ?_
          refine ⟨rfl, (hS11.sublist (by first | exact List.nil_sublist _ | simp)), ?_⟩
          refine d_one (i := 5) (by kernel_rfl) rfl (l' := #[true, true, true, true, true, true, false]) rfl ?_
          obtain ⟨hsm2, hP⟩ := hP
          refine o_app (Ms := fun v5 => [vec v5 28 3 ((r2_ ++ [(r3_, r4_, (90 : Int))]).length) ((r2_ ++ [(r3_, r4_, (90 : Int))]).flatMap encLk), blk b2 28 [(.string r3_), (.string r4_), (.int .i64 (90 : Int))], blk b1 28 [(.string r3_), (.string r4_), (.int .i64 (90 : Int))]]) (k' := (r2_ ++ [(r3_, r4_, (90 : Int))]).length) (xs' := (r2_ ++ [(r3_, r4_, (90 : Int))]).flatMap encLk) Try.underlying24 Try.type28 rfl rfl (bytes := 40) rfl rfl (Nat.succ_pos _) hS11 rfl (q := 0) rfl rfl rfl (blk_row (hS11.get (i := 1) rfl)) (ones rfl) hsm2 (by omega) (by first | rfl | simp) (by simp [encLk]) (fun _ => rfl) ?_
          intro v5 w10 ho3 hS12
          have hS13 := hS12.drop 1 (ms' := [vec v5 28 3 ((r2_ ++ [(r3_, r4_, (90 : Int))]).length) ((r2_ ++ [(r3_, r4_, (90 : Int))]).flatMap encLk), blk b1 28 [(.string r3_), (.string r4_), (.int .i64 (90 : Int))]]) rfl
          refine wpList_nil ?_
          refine ⟨rfl, (hS13.sublist (by first | exact List.nil_sublist _ | simp)), wpJ_weak (J' := fun z => St ⟨w, σ, []⟩ z σ1 [vec v5 28 3 ((r2_ ++ [(r3_, r4_, (90 : Int))]).length) ((r2_ ++ [(r3_, r4_, (90 : Int))]).flatMap encLk), blk b1 28 [(.string r3_), (.string r4_), (.int .i64 (90 : Int))]]) (fun w h => h.sublist (by first | exact List.nil_sublist _ | simp)) _ _ _ _ ?_⟩
          refine d_take (i := 6) (v := v5) (l' := #[true, true, true, true, true, true, true]) rfl (by kernel_rfl) (by kernel_rfl) (by kernel_rfl) rfl rfl (fun _ _ _ h => h) hS13 (fun w hJ K hK => ?_) ?_
          · refine o_assign (v := v5) rfl ?_
            exact ⟨rfl, hK⟩
          refine d_done (by kernel_rfl) ?_
          refine then_n ?_
          exact ⟨_, rfl, r2_ ++ [(r3_, r4_, (90 : Int))], v5, σ1, _, hP, (upd_in rfl (upd_in rfl (upd_in rfl rfl))), hS13, (Sub.refl _), ho3, hsm2⟩
      · rintro f w11 ⟨more_1, v3, σ2, g, hY5, rfl, hS14, hsub1, ho1, hl1⟩
        replace hP := hK5 more_1 hY5
        refine seq_reg ?_
        obtain ⟨Y6, hK6, hc5⟩ := hP
        refine o_call (args := []) rfl Try.call14 (Calls.mono (w_data_Ids hS14.view hc5) ?_)
        rintro _ w12 ⟨r5_, v6, rfl, hg5, hl2, ho4, hY6⟩
        refine ⟨_, rfl, ?_⟩
        have hS15 := hS14.growAdd hg5 (o := vec v6 9 1 r5_.length ((r5_).flatMap encTx)) ho4
        replace hP := hK6 r5_ hY6
        refine o_assign (v := v6) rfl ?_
        refine wpList_nil ?_
        refine then_n ?_
        refine wp_seq ?_
        refine seq_reg ?_
        refine o_assign (v := (.int .i64 (0 : Int))) rfl ?_
        refine wpList_nil ?_
        refine then_n ?_
        refine wp_block ?_
        refine lp_loop1 (fun i_2 f z => ∃ (σ3 : Hv) (g : Fr), f = (upd (upd (upd (upd (upd g 7 (.slice a2 r2_.length cap2)) 8 (.pointer (some ⟨b1, 0, none⟩))) 9 v3) 10 v6) 11 (.int .i64 ((i_2 : Nat) : Int))) ∧ St ⟨w, σ, []⟩ z σ3 [vec v6 9 1 r5_.length ((r5_).flatMap encTx), vec v3 28 3 more_1.length ((more_1).flatMap encLk), blk b1 28 [(.string r3_), (.string r4_), (.int .i64 (90 : Int))]] ∧ Sub σ2 σ3) hP ⟨σ2, _, (upd_in rfl (upd_in rfl (upd_in rfl (upd_in rfl (upd_in rfl rfl))))), hS15, (Sub.refl _)⟩ ?_
        clear hP
        rintro i_2 Y7 hP f w13 ⟨σ3, g, rfl, hS16, hsub2⟩
        refine wp_seq ?_
        refine seq_reg ?_
        refine o_move (v := (.int .i64 ((i_2 : Nat) : Int))) rfl ?_
        refine o_move (v := v6) rfl ?_
        refine o_len_vec hS16 rfl (i := 0) rfl Try.underlying29 ?_
        have hlen2 : r5_.length ≤ 9223372036854775807 := by have := hl2; unfold Sml at this; omega
        replace hP := hP hlen2
        refine o_lss (r := (decide (((i_2 : Nat) : Int) < ((r5_.length : Nat) : Int)))) rfl rfl rfl ?_
        refine wpList_nil ?_
        refine then_n ?_
        refine if_d (((i_2 : Nat) : Int) < ((r5_.length : Nat) : Int)) rfl (fun ht3 => ?_) (fun ht3 => ?_)
        · replace hP := hP.1 ht3
          refine wp_skip ?_
          refine then_n ?_
          refine wp_seq ?_
          refine wp_block ?_
          refine seq_reg ?_
          refine o_assign (v := (.int .i64 (0 : Int))) rfl ?_
          refine wpList_nil ?_
          refine then_n ?_
          refine wp_block ?_
          refine lp_loop1 (fun k_2 f z => ∃ (σ4 : Hv) (g : Fr), f = (upd (upd (upd (upd (upd (upd g 7 (.slice a2 r2_.length cap2)) 8 (.pointer (some ⟨b1, 0, none⟩))) 9 v3) 10 v6) 11 (.int .i64 ((i_2 : Nat) : Int))) 12 (.int .i64 ((k_2 : Nat) : Int))) ∧ St ⟨w, σ, []⟩ z σ4 [vec v6 9 1 r5_.length ((r5_).flatMap encTx), vec v3 28 3 more_1.length ((more_1).flatMap encLk), blk b1 28 [(.string r3_), (.string r4_), (.int .i64 (90 : Int))]] ∧ Sub σ3 σ4) hP ⟨σ3, _, (upd_in rfl (upd_in rfl (upd_in rfl (upd_in rfl (upd_in rfl (upd_in rfl rfl)))))), hS16, (Sub.refl _)⟩ ?_
          clear hP
          rintro k_2 Y8 hP f w14 ⟨σ4, g, rfl, hS17, hsub3⟩
          refine wp_seq ?_
          refine seq_reg ?_
          refine o_move (v := (.int .i64 ((k_2 : Nat) : Int))) rfl ?_
          refine o_move (v := v6) rfl ?_
          refine o_len_vec hS17 rfl (i := 0) rfl Try.underlying29 ?_
          refine o_lss (r := (decide (((k_2 : Nat) : Int) < ((r5_.length : Nat) : Int)))) rfl rfl rfl ?_
          refine wpList_nil ?_
          refine then_n ?_
          refine if_d (((k_2 : Nat) : Int) < ((r5_.length : Nat) : Int)) rfl (fun ht4 => ?_) (fun ht4 => ?_)
          · replace hP := hP.1 ht4
            refine wp_skip ?_
            refine then_n ?_
            refine wp_seq ?_
            refine wp_block ?_
            refine wp_seq ?_
            refine d_reg (fun z => St ⟨w, σ, []⟩ z σ4 [vec v6 9 1 r5_.length ((r5_).flatMap encTx), vec v3 28 3 more_1.length ((more_1).flatMap encLk), blk b1 28 [(.string r3_), (.string r4_), (.int .i64 (90 : Int))]]) (by kernel_rfl) rfl rfl ?_
            have hS18 := hS17.drew
            refine d_take (i := 0) (v := (.slice a2 r2_.length cap2)) (l' := #[true, false, false, false, false, false, false, false, false, false, false, false, false, false, false, false, false, false, false, false, false, false]) rfl (by kernel_rfl) (by kernel_rfl) (by kernel_rfl) rfl rfl (fun _ _ _ h => h) hS18 (fun w hJ K hK => ?_) ?_
            · refine o_move (v := (.slice a2 r2_.length cap2)) rfl ?_
              exact ⟨rfl, hK⟩
            refine d_take (i := 1) (v := v6) (l' := #[true, true, false, false, false, false, false, false, false, false, false, false, false, false, false, false, false, false, false, false, false, false]) rfl (by kernel_rfl) (by kernel_rfl) (by kernel_rfl) rfl rfl (fun _ _ _ h => h) hS18 (fun w hJ K hK => ?_) ?_
            · refine o_move (v := v6) rfl ?_
              exact ⟨rfl, hK⟩
            refine d_take (i := 2) (v := (.int .i64 ((i_2 : Nat) : Int))) (l' := #[true, true, true, false, false, false, false, false, false, false, false, false, false, false, false, false, false, false, false, false, false, false]) rfl (by kernel_rfl) (by kernel_rfl) (by kernel_rfl) rfl rfl (fun _ _ _ h => h) hS18 (fun w hJ K hK => ?_) ?_
            · refine o_move (v := (.int .i64 ((i_2 : Nat) : Int))) rfl ?_
              exact ⟨rfl, hK⟩
            obtain ⟨x1_, hx1⟩ := getq (l := r5_) (k := i_2) (by have := ht3; omega)
            replace hP := hP x1_ hx1
            obtain ⟨g1, cp1, hv1⟩ := vec_posv (hS18.get (i := 0) rfl) (lt_of_getq hx1)
            refine d_take (i := 3) (v := (.pointer (some ⟨g1, i_2 * 1, none⟩))) (l' := #[true, true, true, true, false, false, false, false, false, false, false, false, false, false, false, false, false, false, false, false, false, false]) rfl (by kernel_rfl) (by kernel_rfl) (by kernel_rfl) rfl rfl (fun _ _ _ h => h) hS18 (fun w hJ K hK => ?_) ?_
            · refine o_iaddr_slice (k := i_2) (a' := ⟨g1, i_2 * 1, none⟩) hv1 rfl rfl (lt_of_getq hx1) Try.underlying29 Try.sizeOf9 (by simp [addr_lit]) ?_
              exact ⟨rfl, hK⟩
            refine d_take (i := 4) (v := (.string x1_)) (l' := #[true, true, true, true, true, false, false, false, false, false, false, false, false, false, false, false, false, false, false, false, false, false]) rfl (by kernel_rfl) (by kernel_rfl) (by kernel_rfl) rfl rfl (fun _ _ _ h => h) hS18 (fun w hJ K hK => ?_) ?_
            · refine o_load (v := (.string x1_)) rfl Try.isAgg9 (vec_cellv encTx_len (j := 0) hv1 (hJ.get (i := 0) rfl) hx1 rfl) ?_
              exact ⟨rfl, hK⟩
            refine d_take (i := 5) (v := v6) (l' := #[true, true, true, true, true, true, false, false, false, false, false, false, false, false, false, false, false, false, false, false, false, false]) rfl (by kernel_rfl) (by kernel_rfl) (by kernel_rfl) rfl rfl (fun _ _ _ h => h) hS18 (fun w hJ K hK => ?_) ?_
            · refine o_move (v := v6) rfl ?_
              exact ⟨rfl, hK⟩
            refine d_take (i := 6) (v := (.int .i64 ((k_2 : Nat) : Int))) (l' := #[true, true, true, true, true, true, true, false, false, false, false, false, false, false, false, false, false, false, false, false, false, false]) rfl (by kernel_rfl) (by kernel_rfl) (by kernel_rfl) rfl rfl (fun _ _ _ h => h) hS18 (fun w hJ K hK => ?_) ?_
            · refine o_move (v := (.int .i64 ((k_2 : Nat) : Int))) rfl ?_
              exact ⟨rfl, hK⟩
            obtain ⟨x2_, hx2⟩ := getq (l := r5_) (k := k_2) (by have := ht4; omega)
            replace hP := hP x2_ hx2
            obtain ⟨g2, cp2, hv2⟩ := vec_posv (hS18.get (i := 0) rfl) (lt_of_getq hx2)
            refine d_take (i := 7) (v := (.pointer (some ⟨g2, k_2 * 1, none⟩))) (l' := #[true, true, true, true, true, true, true, true, false, false, false, false, false, false, false, false, false, false, false, false, false, false]) rfl (by kernel_rfl) (by kernel_rfl) (by kernel_rfl) rfl rfl (fun _ _ _ h => h) hS18 (fun w hJ K hK => ?_) ?_
            · refine o_iaddr_slice (k := k_2) (a' := ⟨g2, k_2 * 1, none⟩) hv2 rfl rfl (lt_of_getq hx2) Try.underlying29 Try.sizeOf9 (by simp [addr_lit]) ?_
              exact ⟨rfl, hK⟩
            refine d_take (i := 8) (v := (.string x2_)) (l' := #[true, true, true, true, true, true, true, true, true, false, false, false, false, false, false, false, false, false, false, false, false, false]) rfl (by kernel_rfl) (by kernel_rfl) (by kernel_rfl) rfl rfl (fun _ _ _ h => h) hS18 (fun w hJ K hK => ?_) ?_
            · refine o_load (v := (.string x2_)) rfl Try.isAgg9 (vec_cellv encTx_len (j := 0) hv2 (hJ.get (i := 0) rfl) hx2 rfl) ?_
              exact ⟨rfl, hK⟩
            refine d_take (i := 10) (v := v3) (l' := #[true, true, true, true, true, true, true, true, true, false, true, false, false, false, false, false, false, false, false, false, false, false]) rfl (by kernel_rfl) (by kernel_rfl) (by kernel_rfl) rfl rfl (fun _ _ _ h => h) hS18 (fun w hJ K hK => ?_) ?_
            · refine o_move (v := v3) rfl ?_
              exact ⟨rfl, hK⟩
            refine d_take (i := 11) (v := v6) (l' := #[true, true, true, true, true, true, true, true, true, false, true, true, false, false, false, false, false, false, false, false, false, false]) rfl (by kernel_rfl) (by kernel_rfl) (by kernel_rfl) rfl rfl (fun _ _ _ h => h) hS18 (fun w hJ K hK => ?_) ?_
            · refine o_move (v := v6) rfl ?_
              exact ⟨rfl, hK⟩
            refine d_take (i := 12) (v := (.int .i64 ((i_2 : Nat) : Int))) (l' := #[true, true, true, true, true, true, true, true, true, false, true, true, true, false, false, false, false, false, false, false, false, false]) rfl (by kernel_rfl) (by kernel_rfl) (by kernel_rfl) rfl rfl (fun _ _ _ h => h) hS18 (fun w hJ K hK => ?_) ?_
            · refine o_move (v := (.int .i64 ((i_2 : Nat) : Int))) rfl ?_
              exact ⟨rfl, hK⟩
            obtain ⟨g3, cp3, hv3⟩ := vec_posv (hS18.get (i := 0) rfl) (lt_of_getq hx1)
            refine d_take (i := 13) (v := (.pointer (some ⟨g3, i_2 * 1, none⟩))) (l' := #[true, true, true, true, true, true, true, true, true, false, true, true, true, true, false, false, false, false, false, false, false, false]) rfl (by kernel_rfl) (by kernel_rfl) (by kernel_rfl) rfl rfl (fun _ _ _ h => h) hS18 (fun w hJ K hK => ?_) ?_
            · refine o_iaddr_slice (k := i_2) (a' := ⟨g3, i_2 * 1, none⟩) hv3 rfl rfl (lt_of_getq hx1) Try.underlying29 Try.sizeOf9 (by simp [addr_lit]) ?_
              exact ⟨rfl, hK⟩
            refine d_take (i := 14) (v := (.string x1_)) (l' := #[true, true, true, true, true, true, true, true, true, false, true, true, true, true, true, false, false, false, false, false, false, false]) rfl (by kernel_rfl) (by kernel_rfl) (by kernel_rfl) rfl rfl (fun _ _ _ h => h) hS18 (fun w hJ K hK => ?_) ?_
            · refine o_load (v := (.string x1_)) rfl Try.isAgg9 (vec_cellv encTx_len (j := 0) hv3 (hJ.get (i := 0) rfl) hx1 rfl) ?_
              exact ⟨rfl, hK⟩
            refine d_take (i := 15) (v := v6) (l' := #[true, true, true, true, true, true, true, true, true, false, true, true, true, true, true, true, false, false, false, false, false, false]) rfl (by kernel_rfl) (by kernel_rfl) (by kernel_rfl) rfl rfl (fun _ _ _ h => h) hS18 (fun w hJ K hK => ?_) ?_
            · refine o_move (v := v6) rfl ?_
              exact ⟨rfl, hK⟩
            refine d_take (i := 16) (v := (.int .i64 ((k_2 : Nat) : Int))) (l' := #[true, true, true, true, true, true, true, true, true, false, true, true, true, true, true, true, true, false, false, false, false, false]) rfl (by kernel_rfl) (by kernel_rfl) (by kernel_rfl) rfl rfl (fun _ _ _ h => h) hS18 (fun w hJ K hK => ?_) ?_
            · refine o_move (v := (.int .i64 ((k_2 : Nat) : Int))) rfl ?_
              exact ⟨rfl, hK⟩
            obtain ⟨g4, cp4, hv4⟩ := vec_posv (hS18.get (i := 0) rfl) (lt_of_getq hx2)
            refine d_take (i := 17) (v := (.pointer (some ⟨g4, k_2 * 1, none⟩))) (l' := #[true, true, true, true, true, true, true, true, true, false, true, true, true, true, true, true, true, true, false, false, false, false]) rfl (by kernel_rfl) (by kernel_rfl) (by kernel_rfl) rfl rfl (fun _ _ _ h => h) hS18 (fun w hJ K hK => ?_) ?_
            · refine o_iaddr_slice (k := k_2) (a' := ⟨g4, k_2 * 1, none⟩) hv4 rfl rfl (lt_of_getq hx2) Try.underlying29 Try.sizeOf9 (by simp [addr_lit]) ?_
              exact ⟨rfl, hK⟩
            refine d_take (i := 18) (v := (.string x2_)) (l' := #[true, true, true, true, true, true, true, true, true, false, true, true, true, true, true, true, true, true, true, false, false, false]) rfl (by kernel_rfl) (by kernel_rfl) (by kernel_rfl) rfl rfl (fun _ _ _ h => h) hS18 (fun w hJ K hK => ?_) ?_
            · refine o_load (v := (.string x2_)) rfl Try.isAgg9 (vec_cellv encTx_len (j := 0) hv4 (hJ.get (i := 0) rfl) hx2 rfl) ?_
              exact ⟨rfl, hK⟩
            refine d_one (i := 9) (by kernel_rfl) rfl (l' := #[true, true, true, true, true, true, true, true, true, true, true, true, true, true, true, true, true, true, true, false, false, false]) rfl ?_
            obtain ⟨Y9, hK7, hc6⟩ := hP
            refine o_call (args := [(.slice a2 r2_.length cap2), (.string x1_), (.string x2_)]) rfl Try.call15 (Calls.mono (w_identity_Same r2_ x1_ x2_ (.slice a2 r2_.length cap2) hS18.view (RSl.menc (Sub.trans (Sub.trans hsub1 hsub2) hsub3) hr2) hc6) ?_)
            rintro _ w15 ⟨r6_, rfl, hg6, hY7⟩
            refine ⟨_, rfl, ?_⟩
            have hS19 := hS18.grow hg6
            replace hP := hK7 r6_ hY7
            refine wpList_nil ?_
            refine ⟨rfl, hS19, ?_⟩
            refine d_one (i := 19) (by kernel_rfl) rfl (l' := #[true, true, true, true, true, true, true, true, true, true, true, true, true, true, true, true, true, true, true, true, false, false]) rfl ?_
            obtain ⟨σ5, hS20, hsub4, hr4⟩ := hS19.peek (i := 1) rfl (notin0 _) encLk_len hl1
            obtain ⟨Y10, hK8, hc7⟩ := hP
            refine o_call (args := [v3, (.string x1_), (.string x2_)]) rfl Try.call15 (Calls.mono (w_identity_Same more_1 x1_ x2_ v3 hS20.view hr4 hc7) ?_)
            rintro _ w16 ⟨r7_, rfl, hg7, hY8⟩
            refine ⟨_, rfl, ?_⟩
            have hg7b := hg7.back hsub4
            have hS21 := hS19.grow hg7b
            replace hP := hK8 r7_ hY8
            refine wpList_nil ?_
            refine ⟨rfl, hS21, ?_⟩
            refine d_take (i := 20) (v := (.bool (r6_))) (l' := #[true, true, true, true, true, true, true, true, true, true, true, true, true, true, true, true, true, true, true, true, true, false]) rfl (by kernel_rfl) (by kernel_rfl) (by kernel_rfl) rfl rfl (fun _ _ _ h => h) hS21 (fun w hJ K hK => ?_) ?_
            · refine o_assign (v := (.bool (r6_))) rfl ?_
              exact ⟨rfl, hK⟩
            refine d_take (i := 21) (v := (.bool (r7_))) (l' := #[true, true, true, true, true, true, true, true, true, true, true, true, true, true, true, true, true, true, true, true, true, true]) rfl (by kernel_rfl) (by kernel_rfl) (by kernel_rfl) rfl rfl (fun _ _ _ h => h) hS21 (fun w hJ K hK => ?_) ?_
            · refine o_assign (v := (.bool (r7_))) rfl ?_
              exact ⟨rfl, hK⟩
            refine d_done (by kernel_rfl) ?_
            refine then_n ?_
            refine wp_seq ?_
            refine d_reg (fun z => St ⟨w, σ, []⟩ z σ4 [vec v6 9 1 r5_.length ((r5_).flatMap encTx), vec v3 28 3 more_1.length ((more_1).flatMap encLk), blk b1 28 [(.string r3_), (.string r4_), (.int .i64 (90 : Int))]]) (by kernel_rfl) rfl rfl ?_
            have hS22 := hS21.drew
            refine d_take (i := 0) (v := (.slice a2 r2_.length cap2)) (l' := #[true, false, false, false, false, false, false, false, false, false, false, false, false, false, false, false, false, false, false, false, false, false, false, false, false, false, false, false, false, false, false, false, false, false, false, false, false, false, false]) rfl (by kernel_rfl) (by kernel_rfl) (by kernel_rfl) rfl rfl (fun _ _ _ h => h) hS22 (fun w hJ K hK => ?_) ?_
            · refine o_move (v := (.slice a2 r2_.length cap2)) rfl ?_
              exact ⟨rfl, hK⟩
            refine d_take (i := 1) (v := v6) (l' := #[true, true, false, false, false, false, false, false, false, false, false, false, false, false, false, false, false, false, false, false, false, false, false, false, false, false, false, false, false, false, false, false, false, false, false, false, false, false, false]) rfl (by kernel_rfl) (by kernel_rfl) (by kernel_rfl) rfl rfl (fun _ _ _ h => h) hS22 (fun w hJ K hK => ?_) ?_
            · refine o_move (v := v6) rfl ?_
              exact ⟨rfl, hK⟩
            refine d_take (i := 2) (v := (.int .i64 ((i_2 : Nat) : Int))) (l' := #[true, true, true, false, false, false, false, false, false, false, false, false, false, false, false, false, false, false, false, false, false, false, false, false, false, false, false, false, false, false, false, false, false, false, false, false, false, false, false]) rfl (by kernel_rfl) (by kernel_rfl) (by kernel_rfl) rfl rfl (fun _ _ _ h => h) hS22 (fun w hJ K hK => ?_) ?_
            · refine o_move (v := (.int .i64 ((i_2 : Nat) : Int))) rfl ?_
              exact ⟨rfl, hK⟩
            obtain ⟨g5, cp5, hv5⟩ := vec_posv (hS22.get (i := 0) rfl) (lt_of_getq hx1)
            refine d_take (i := 3) (v := (.pointer (some ⟨g5, i_2 * 1, none⟩))) (l' := #[true, true, true, true, false, false, false, false, false, false, false, false, false, false, false, false, false, false, false, false, false, false, false, false, false, false, false, false, false, false, false, false, false, false, false, false, false, false, false]) rfl (by kernel_rfl) (by kernel_rfl) (by kernel_rfl) rfl rfl (fun _ _ _ h => h) hS22 (fun w hJ K hK => ?_) ?_
            · refine o_iaddr_slice (k := i_2) (a' := ⟨g5, i_2 * 1, none⟩) hv5 rfl rfl (lt_of_getq hx1) Try.underlying29 Try.sizeOf9 (by simp [addr_lit]) ?_
              exact ⟨rfl, hK⟩
            refine d_take (i := 4) (v := (.string x1_)) (l' := #[true, true, true, true, true, false, false, false, false, false, false, false, false, false, false, false, false, false, false, false, false, false, false, false, false, false, false, false, false, false, false, false, false, false, false, false, false, false, false]) rfl (by kernel_rfl) (by kernel_rfl) (by kernel_rfl) rfl rfl (fun _ _ _ h => h) hS22 (fun w hJ K hK => ?_) ?_
            · refine o_load (v := (.string x1_)) rfl Try.isAgg9 (vec_cellv encTx_len (j := 0) hv5 (hJ.get (i := 0) rfl) hx1 rfl) ?_
              exact ⟨rfl, hK⟩
            refine d_take (i := 5) (v := (.pointer (some ⟨b1, 0, none⟩))) (l' := #[true, true, true, true, true, true, false, false, false, false, false, false, false, false, false, false, false, false, false, false, false, false, false, false, false, false, false, false, false, false, false, false, false, false, false, false, false, false, false]) rfl (by kernel_rfl) (by kernel_rfl) (by kernel_rfl) rfl rfl (fun _ _ _ h => h) hS22 (fun w hJ K hK => ?_) ?_
            · refine o_faddr (a' := ⟨b1, 0, none⟩) rfl Try.underlying28 rfl Try.sizeOf9 rfl ?_
              exact ⟨rfl, hK⟩
            refine d_take (i := 6) (v := (.string r3_)) (l' := #[true, true, true, true, true, true, true, false, false, false, false, false, false, false, false, false, false, false, false, false, false, false, false, false, false, false, false, false, false, false, false, false, false, false, false, false, false, false, false]) rfl (by kernel_rfl) (by kernel_rfl) (by kernel_rfl) rfl rfl (fun _ _ _ h => h) hS22 (fun w hJ K hK => ?_) ?_
            · refine o_load (v := (.string r3_)) rfl Try.isAgg9 (hJ.cell (i := 2) rfl rfl) ?_
              exact ⟨rfl, hK⟩
            refine d_one (i := 7) (by kernel_rfl) rfl (l' := #[true, true, true, true, true, true, true, true, false, false, false, false, false, false, false, false, false, false, false, false, false, false, false, false, false, false, false, false, false, false, false, false, false, false, false, false, false, false, false]) rfl ?_
            obtain ⟨Y11, hK9, hc8⟩ := hP
            refine o_call (args := [(.slice a2 r2_.length cap2), (.string x1_), (.string r3_)]) rfl Try.call15 (Calls.mono (w_identity_Same r2_ x1_ r3_ (.slice a2 r2_.length cap2) hS22.view (RSl.menc (Sub.trans (Sub.trans hsub1 hsub2) hsub3) hr2) hc8) ?_)
            rintro _ w17 ⟨r8_, rfl, hg8, hY9⟩
            refine ⟨_, rfl, ?_⟩
            have hS23 := hS22.grow hg8
            replace hP := hK9 r8_ hY9
            refine wpList_nil ?_
            refine ⟨rfl, hS23, ?_⟩
            rcases Bool.eq_false_or_eq_true (r8_) with hb1 | hb1
            · replace hP := hP.1 hb1
              refine d_take (i := 8) (v := (.bool true)) (l' := #[true, true, true, true, true, true, true, true, true, false, false, false, false, false, false, false, false, false, false, false, false, false, false, false, false, false, false, false, false, false, false, false, false, false, false, false, false, false, false]) rfl (by kernel_rfl) (by kernel_rfl) (by kernel_rfl) rfl rfl (fun _ _ _ h => h) hS23 (fun w hJ K hK => ?_) ?_
              · refine o_move (v := (.bool true)) (congrArg Value.bool hb1) ?_
                exact ⟨rfl, hK⟩
              refine d_take (i := 9) (v := (.slice a2 r2_.length cap2)) (l' := #[true, true, true, true, true, true, true, true, true, true, false, false, false, false, false, false, false, false, false, false, false, false, false, false, false, false, false, false, false, false, false, false, false, false, false, false, false, false, false]) rfl (by kernel_rfl) (by kernel_rfl) (by kernel_rfl) rfl rfl (fun _ _ _ h => h) hS23 (fun w hJ K hK => ?_) ?_
              · refine o_on rfl rfl ?_
                refine o_move (v := (.slice a2 r2_.length cap2)) rfl ?_
                exact ⟨rfl, hK⟩
              refine d_take (i := 10) (v := (.pointer (some ⟨b1, 1, none⟩))) (l' := #[true, true, true, true, true, true, true, true, true, true, true, false, false, false, false, false, false, false, false, false, false, false, false, false, false, false, false, false, false, false, false, false, false, false, false, false, false, false, false]) rfl (by kernel_rfl) (by kernel_rfl) (by kernel_rfl) rfl rfl (fun _ _ _ h => h) hS23 (fun w hJ K hK => ?_) ?_
              · refine o_on rfl rfl ?_
                refine o_faddr (a' := ⟨b1, 1, none⟩) rfl Try.underlying28 rfl Try.sizeOf9 rfl ?_
                exact ⟨rfl, hK⟩
              refine d_take (i := 11) (v := (.string r4_)) (l' := #[true, true, true, true, true, true, true, true, true, true, true, true, false, false, false, false, false, false, false, false, false, false, false, false, false, false, false, false, false, false, false, false, false, false, false, false, false, false, false]) rfl (by kernel_rfl) (by kernel_rfl) (by kernel_rfl) rfl rfl (fun _ _ _ h => h) hS23 (fun w hJ K hK => ?_) ?_
              · refine o_on rfl rfl ?_
                refine o_load (v := (.string r4_)) rfl Try.isAgg9 (hJ.cell (i := 2) rfl rfl) ?_
                exact ⟨rfl, hK⟩
              refine d_take (i := 12) (v := v6) (l' := #[true, true, true, true, true, true, true, true, true, true, true, true, true, false, false, false, false, false, false, false, false, false, false, false, false, false, false, false, false, false, false, false, false, false, false, false, false, false, false]) rfl (by kernel_rfl) (by kernel_rfl) (by kernel_rfl) rfl rfl (fun _ _ _ h => h) hS23 (fun w hJ K hK => ?_) ?_
              · refine o_on rfl rfl ?_
                refine o_move (v := v6) rfl ?_
                exact ⟨rfl, hK⟩
              refine d_take (i := 13) (v := (.int .i64 ((k_2 : Nat) : Int))) (l' := #[true, true, true, true, true, true, true, true, true, true, true, true, true, true, false, false, false, false, false, false, false, false, false, false, false, false, false, false, false, false, false, false, false, false, false, false, false, false, false]) rfl (by kernel_rfl) (by kernel_rfl) (by kernel_rfl) rfl rfl (fun _ _ _ h => h) hS23 (fun w hJ K hK => ?_) ?_
              · refine o_on rfl rfl ?_
                refine o_move (v := (.int .i64 ((k_2 : Nat) : Int))) rfl ?_
                exact ⟨rfl, hK⟩
              obtain ⟨g6, cp6, hv6⟩ := vec_posv (hS23.get (i := 0) rfl) (lt_of_getq hx2)
              refine d_take (i := 14) (v := (.pointer (some ⟨g6, k_2 * 1, none⟩))) (l' := #[true, true, true, true, true, true, true, true, true, true, true, true, true, true, true, false, false, false, false, false, false, false, false, false, false, false, false, false, false, false, false, false, false, false, false, false, false, false, false]) rfl (by kernel_rfl) (by kernel_rfl) (by kernel_rfl) rfl rfl (fun _ _ _ h => h) hS23 (fun w hJ K hK => ?_) ?_
              · refine o_on rfl rfl ?_
                refine o_iaddr_slice (k := k_2) (a' := ⟨g6, k_2 * 1, none⟩) hv6 rfl rfl (lt_of_getq hx2) Try.underlying29 Try.sizeOf9 (by simp [addr_lit]) ?_
                exact ⟨rfl, hK⟩
              refine d_take (i := 15) (v := (.string x2_)) (l' := #[true, true, true, true, true, true, true, true, true, true, true, true, true, true, true, true, false, false, false, false, false, false, false, false, false, false, false, false, false, false, false, false, false, false, false, false, false, false, false]) rfl (by kernel_rfl) (by kernel_rfl) (by kernel_rfl) rfl rfl (fun _ _ _ h => h) hS23 (fun w hJ K hK => ?_) ?_
              · refine o_on rfl rfl ?_
                refine o_load (v := (.string x2_)) rfl Try.isAgg9 (vec_cellv encTx_len (j := 0) hv6 (hJ.get (i := 0) rfl) hx2 rfl) ?_
                exact ⟨rfl, hK⟩
              refine d_one (i := 16) (by kernel_rfl) rfl (l' := #[true, true, true, true, true, true, true, true, true, true, true, true, true, true, true, true, true, false, false, false, false, false, false, false, false, false, false, false, false, false, false, false, false, false, false, false, false, false, false]) rfl ?_
              refine o_on rfl rfl ?_
              obtain ⟨Y12, hK10, hc9⟩ := hP
              refine o_call (args := [(.slice a2 r2_.length cap2), (.string r4_), (.string x2_)]) rfl Try.call15 (Calls.mono (w_identity_Same r2_ r4_ x2_ (.slice a2 r2_.length cap2) hS23.view (RSl.menc (Sub.trans (Sub.trans hsub1 hsub2) hsub3) hr2) hc9) ?_)
              rintro _ w18 ⟨r9_, rfl, hg9, hY10⟩
              refine ⟨_, rfl, ?_⟩
              have hS24 := hS23.grow hg9
              replace hP := hK10 r9_ hY10
              refine wpList_nil ?_
              refine ⟨rfl, hS24, ?_⟩
              refine d_take (i := 17) (v := (.bool (r9_))) (l' := #[true, true, true, true, true, true, true, true, true, true, true, true, true, true, true, true, true, true, false, false, false, false, false, false, false, false, false, false, false, false, false, false, false, false, false, false, false, false, false]) rfl (by kernel_rfl) (by kernel_rfl) (by kernel_rfl) rfl rfl (fun _ _ _ h => h) hS24 (fun w hJ K hK => ?_) ?_
              · refine o_pick_t (v := (.bool (r9_))) rfl rfl ?_
                exact ⟨rfl, hK⟩
              rcases Bool.eq_false_or_eq_true (r9_) with hb2 | hb2
              · replace hP := hP.1 hb2
                refine d_take (i := 18) (v := (.bool true)) (l' := #[true, true, true, true, true, true, true, true, true, true, true, true, true, true, true, true, true, true, true, false, false, false, false, false, false, false, false, false, false, false, false, false, false, false, false, false, false, false, false]) rfl (by kernel_rfl) (by kernel_rfl) (by kernel_rfl) rfl rfl (fun _ _ _ h => h) hS24 (fun w hJ K hK => ?_) ?_
                · refine o_move (v := (.bool true)) (congrArg Value.bool hb2) ?_
                  exact ⟨rfl, hK⟩
                refine d_take (i := 19) (v := undef) (l' := #[true, true, true, true, true, true, true, true, true, true, true, true, true, true, true, true, true, true, true, true, false, false, false, false, false, false, false, false, false, false, false, false, false, false, false, false, false, false, false]) rfl (by kernel_rfl) (by kernel_rfl) (by kernel_rfl) rfl rfl (fun _ _ _ h => h) hS24 (fun w hJ K hK => ?_) ?_
                · refine o_off rfl rfl ?_
                  exact ⟨rfl, hK⟩
                refine d_take (i := 20) (v := undef) (l' := #[true, true, true, true, true, true, true, true, true, true, true, true, true, true, true, true, true, true, true, true, true, false, false, false, false, false, false, false, false, false, false, false, false, false, false, false, false, false, false]) rfl (by kernel_rfl) (by kernel_rfl) (by kernel_rfl) rfl rfl (fun _ _ _ h => h) hS24 (fun w hJ K hK => ?_) ?_
                · refine o_off rfl rfl ?_
                  exact ⟨rfl, hK⟩
                refine d_take (i := 21) (v := undef) (l' := #[true, true, true, true, true, true, true, true, true, true, true, true, true, true, true, true, true, true, true, true, true, true, false, false, false, false, false, false, false, false, false, false, false, false, false, false, false, false, false]) rfl (by kernel_rfl) (by kernel_rfl) (by kernel_rfl) rfl rfl (fun _ _ _ h => h) hS24 (fun w hJ K hK => ?_) ?_
                · refine o_off rfl rfl ?_
                  exact ⟨rfl, hK⟩
                refine d_take (i := 22) (v := undef) (l' := #[true, true, true, true, true, true, true, true, true, true, true, true, true, true, true, true, true, true, true, true, true, true, true, false, false, false, false, false, false, false, false, false, false, false, false, false, false, false, false]) rfl (by kernel_rfl) (by kernel_rfl) (by kernel_rfl) rfl rfl (fun _ _ _ h => h) hS24 (fun w hJ K hK => ?_) ?_
                · refine o_off rfl rfl ?_
                  exact ⟨rfl, hK⟩
                refine d_take (i := 23) (v := undef) (l' := #[true, true, true, true, true, true, true, true, true, true, true, true, true, true, true, true, true, true, true, true, true, true, true, true, false, false, false, false, false, false, false, false, false, false, false, false, false, false, false]) rfl (by kernel_rfl) (by kernel_rfl) (by kernel_rfl) rfl rfl (fun _ _ _ h => h) hS24 (fun w hJ K hK => ?_) ?_
                · refine o_off rfl rfl ?_
                  exact ⟨rfl, hK⟩
                refine d_take (i := 24) (v := undef) (l' := #[true, true, true, true, true, true, true, true, true, true, true, true, true, true, true, true, true, true, true, true, true, true, true, true, true, false, false, false, false, false, false, false, false, false, false, false, false, false, false]) rfl (by kernel_rfl) (by kernel_rfl) (by kernel_rfl) rfl rfl (fun _ _ _ h => h) hS24 (fun w hJ K hK => ?_) ?_
                · refine o_off rfl rfl ?_
                  exact ⟨rfl, hK⟩
                refine d_take (i := 25) (v := undef) (l' := #[true, true, true, true, true, true, true, true, true, true, true, true, true, true, true, true, true, true, true, true, true, true, true, true, true, true, false, false, false, false, false, false, false, false, false, false, false, false, false]) rfl (by kernel_rfl) (by kernel_rfl) (by kernel_rfl) rfl rfl (fun _ _ _ h => h) hS24 (fun w hJ K hK => ?_) ?_
                · refine o_off rfl rfl ?_
                  exact ⟨rfl, hK⟩
                refine d_take (i := 26) (v := undef) (l' := #[true, true, true, true, true, true, true, true, true, true, true, true, true, true, true, true, true, true, true, true, true, true, true, true, true, true, true, false, false, false, false, false, false, false, false, false, false, false, false]) rfl (by kernel_rfl) (by kernel_rfl) (by kernel_rfl) rfl rfl (fun _ _ _ h => h) hS24 (fun w hJ K hK => ?_) ?_
                · refine o_off rfl rfl ?_
                  exact ⟨rfl, hK⟩
                refine d_take (i := 27) (v := undef) (l' := #[true, true, true, true, true, true, true, true, true, true, true, true, true, true, true, true, true, true, true, true, true, true, true, true, true, true, true, true, false, false, false, false, false, false, false, false, false, false, false]) rfl (by kernel_rfl) (by kernel_rfl) (by kernel_rfl) rfl rfl (fun _ _ _ h => h) hS24 (fun w hJ K hK => ?_) ?_
                · refine o_off rfl rfl ?_
                  exact ⟨rfl, hK⟩
                refine d_take (i := 28) (v := undef) (l' := #[true, true, true, true, true, true, true, true, true, true, true, true, true, true, true, true, true, true, true, true, true, true, true, true, true, true, true, true, true, false, false, false, false, false, false, false, false, false, false]) rfl (by kernel_rfl) (by kernel_rfl) (by kernel_rfl) rfl rfl (fun _ _ _ h => h) hS24 (fun w hJ K hK => ?_) ?_
                · refine o_offu rfl rfl ?_
                  exact ⟨rfl, hK⟩
                refine d_take (i := 29) (v := undef) (l' := #[true, true, true, true, true, true, true, true, true, true, true, true, true, true, true, true, true, true, true, true, true, true, true, true, true, true, true, true, true, true, false, false, false, false, false, false, false, false, false]) rfl (by kernel_rfl) (by kernel_rfl) (by kernel_rfl) rfl rfl (fun _ _ _ h => h) hS24 (fun w hJ K hK => ?_) ?_
                · refine o_offu rfl rfl ?_
                  exact ⟨rfl, hK⟩
                refine d_take (i := 30) (v := undef) (l' := #[true, true, true, true, true, true, true, true, true, true, true, true, true, true, true, true, true, true, true, true, true, true, true, true, true, true, true, true, true, true, true, false, false, false, false, false, false, false, false]) rfl (by kernel_rfl) (by kernel_rfl) (by kernel_rfl) rfl rfl (fun _ _ _ h => h) hS24 (fun w hJ K hK => ?_) ?_
                · refine o_offu rfl rfl ?_
                  exact ⟨rfl, hK⟩
                refine d_take (i := 31) (v := undef) (l' := #[true, true, true, true, true, true, true, true, true, true, true, true, true, true, true, true, true, true, true, true, true, true, true, true, true, true, true, true, true, true, true, true, false, false, false, false, false, false, false]) rfl (by kernel_rfl) (by kernel_rfl) (by kernel_rfl) rfl rfl (fun _ _ _ h => h) hS24 (fun w hJ K hK => ?_) ?_
                · refine o_offu rfl rfl ?_
                  exact ⟨rfl, hK⟩
                refine d_take (i := 32) (v := undef) (l' := #[true, true, true, true, true, true, true, true, true, true, true, true, true, true, true, true, true, true, true, true, true, true, true, true, true, true, true, true, true, true, true, true, true, false, false, false, false, false, false]) rfl (by kernel_rfl) (by kernel_rfl) (by kernel_rfl) rfl rfl (fun _ _ _ h => h) hS24 (fun w hJ K hK => ?_) ?_
                · refine o_offu rfl rfl ?_
                  exact ⟨rfl, hK⟩
                refine d_take (i := 33) (v := undef) (l' := #[true, true, true, true, true, true, true, true, true, true, true, true, true, true, true, true, true, true, true, true, true, true, true, true, true, true, true, true, true, true, true, true, true, true, false, false, false, false, false]) rfl (by kernel_rfl) (by kernel_rfl) (by kernel_rfl) rfl rfl (fun _ _ _ h => h) hS24 (fun w hJ K hK => ?_) ?_
                · refine o_offu rfl rfl ?_
                  exact ⟨rfl, hK⟩
                refine d_take (i := 34) (v := undef) (l' := #[true, true, true, true, true, true, true, true, true, true, true, true, true, true, true, true, true, true, true, true, true, true, true, true, true, true, true, true, true, true, true, true, true, true, true, false, false, false, false]) rfl (by kernel_rfl) (by kernel_rfl) (by kernel_rfl) rfl rfl (fun _ _ _ h => h) hS24 (fun w hJ K hK => ?_) ?_
                · refine o_offu rfl rfl ?_
                  exact ⟨rfl, hK⟩
                refine d_take (i := 35) (v := undef) (l' := #[true, true, true, true, true, true, true, true, true, true, true, true, true, true, true, true, true, true, true, true, true, true, true, true, true, true, true, true, true, true, true, true, true, true, true, true, false, false, false]) rfl (by kernel_rfl) (by kernel_rfl) (by kernel_rfl) rfl rfl (fun _ _ _ h => h) hS24 (fun w hJ K hK => ?_) ?_
                · refine o_offu rfl rfl ?_
                  exact ⟨rfl, hK⟩
                refine d_take (i := 36) (v := undef) (l' := #[true, true, true, true, true, true, true, true, true, true, true, true, true, true, true, true, true, true, true, true, true, true, true, true, true, true, true, true, true, true, true, true, true, true, true, true, true, false, false]) rfl (by kernel_rfl) (by kernel_rfl) (by kernel_rfl) rfl rfl (fun _ _ _ h => h) hS24 (fun w hJ K hK => ?_) ?_
                · refine o_off rfl rfl ?_
                  exact ⟨rfl, hK⟩
                refine d_take (i := 37) (v := (.bool true)) (l' := #[true, true, true, true, true, true, true, true, true, true, true, true, true, true, true, true, true, true, true, true, true, true, true, true, true, true, true, true, true, true, true, true, true, true, true, true, true, true, false]) rfl (by kernel_rfl) (by kernel_rfl) (by kernel_rfl) rfl rfl (fun _ _ _ h => h) hS24 (fun w hJ K hK => ?_) ?_
                · refine o_pick_t (v := (.bool true)) rfl rfl ?_
                  exact ⟨rfl, hK⟩
                refine d_take (i := 38) (v := (.bool true)) (l' := #[true, true, true, true, true, true, true, true, true, true, true, true, true, true, true, true, true, true, true, true, true, true, true, true, true, true, true, true, true, true, true, true, true, true, true, true, true, true, true]) rfl (by kernel_rfl) (by kernel_rfl) (by kernel_rfl) rfl rfl (fun _ _ _ h => h) hS24 (fun w hJ K hK => ?_) ?_
                · refine o_assign (v := (.bool true)) rfl ?_
                  exact ⟨rfl, hK⟩
                refine d_done (by kernel_rfl) ?_
                refine then_n ?_
                refine seq_reg ?_
                refine o_move (v := (.bool (r7_))) rfl ?_
                refine o_move (v := (.bool (r6_))) rfl ?_
                rcases Bool.eq_false_or_eq_true (r6_) with hb3 | hb3
                · replace hP := hP.1 hb3
                  refine o_move (v := (.bool true)) (congrArg Value.bool hb3) ?_
                  refine o_off rfl rfl ?_
                  refine o_pick_t (v := (.bool true)) rfl rfl ?_
                  refine o_neqb (r := (!(r7_) == true)) Try.underlying4 rfl rfl rfl ?_
                  refine wpList_nil ?_
                  refine then_n ?_
                  refine if_nb rfl (fun ht5 => ?_) (fun ht5 => ?_)
                  · replace hP := hP.2 (by simp [ht5])
                    refine seq_reg ?_
                    refine o_assign (v := (.bool false)) rfl ?_
                    refine wpList_nil ?_
                    refine then_n ?_
                    refine wp_ret ?_
                    refine blk_r ?_
                    refine then_r ?_
                    refine then_r ?_
                    refine blk_r ?_
                    refine blk_r ?_
                    refine then_r ?_
                    refine then_r ?_
                    refine blk_r ?_
                    refine then_r ?_
                    refine ret1 rfl (show ev _ _ _ = (.bool false) from rfl) ?_
                    exact ⟨false, rfl, hS24.done.forget, hP⟩
                  · replace hP := hP.1 ht5
                    refine wp_skip ?_
                    refine blk_n ?_
                    refine then_n ?_
                    refine one_reg ?_
                    refine o_move (v := (.int .i64 ((k_2 : Nat) : Int))) rfl ?_
                    refine o_add (r := ((k_2 + 1 : Nat) : Int)) rfl rfl (nw (by omega) (by omega) (by have := hlen2; omega)) ?_
                    refine o_assign (v := (.int .i64 ((k_2 + 1 : Nat) : Int))) rfl ?_
                    refine wpList_nil ?_
                    refine then_n ?_
                    exact ⟨k_2 + 1, _, rfl, hP, σ4, _, (upd_in rfl (upd_in rfl (upd_in rfl (upd_in rfl (upd_in rfl (upd_in rfl rfl)))))), hS24, hsub3⟩
                · replace hP := hP.2 (by simp [hb3])
                  refine o_move (v := (.bool false)) (congrArg Value.bool hb3) ?_
                  refine o_on rfl rfl ?_
                  refine o_move (v := (.bool true)) rfl ?_
                  refine o_pick_f (v := (.bool true)) rfl rfl ?_
                  refine o_neqb (r := (!(r7_) == true)) Try.underlying4 rfl rfl rfl ?_
                  refine wpList_nil ?_
                  refine then_n ?_
                  refine if_nb rfl (fun ht6 => ?_) (fun ht6 => ?_)
                  · replace hP := hP.2 (by simp [ht6])
                    refine seq_reg ?_
                    refine o_assign (v := (.bool false)) rfl ?_
                    refine wpList_nil ?_
                    refine then_n ?_
                    refine wp_ret ?_
                    refine blk_r ?_
                    refine then_r ?_
                    refine then_r ?_
                    refine blk_r ?_
                    refine blk_r ?_
                    refine then_r ?_
                    refine then_r ?_
                    refine blk_r ?_
                    refine then_r ?_
                    refine ret1 rfl (show ev _ _ _ = (.bool false) from rfl) ?_
                    exact ⟨false, rfl, hS24.done.forget, hP⟩
                  · replace hP := hP.1 ht6
                    refine wp_skip ?_
                    refine blk_n ?_
                    refine then_n ?_
                    refine one_reg ?_
                    refine o_move (v := (.int .i64 ((k_2 : Nat) : Int))) rfl ?_
                    refine o_add (r := ((k_2 + 1 : Nat) : Int)) rfl rfl (nw (by omega) (by omega) (by have := hlen2; omega)) ?_
                    refine o_assign (v := (.int .i64 ((k_2 + 1 : Nat) : Int))) rfl ?_
                    refine wpList_nil ?_
                    refine then_n ?_
                    exact ⟨k_2 + 1, _, rfl, hP, σ4, _, (upd_in rfl (upd_in rfl (upd_in rfl (upd_in rfl (upd_in rfl (upd_in rfl rfl)))))), hS24, hsub3⟩
              · replace hP := hP.2 (by simp [hb2])
                refine d_take (i := 18) (v := (.bool false)) (l' := #[true, true, true, true, true, true, true, true, true, true, true, true, true, true, true, true, true, true, true, false, false, false, false, false, false, false, false, false, false, false, false, false, false, false, false, false, false, false, false]) rfl (by kernel_rfl) (by kernel_rfl) (by kernel_rfl) rfl rfl (fun _ _ _ h => h) hS24 (fun w hJ K hK => ?_) ?_
                · refine o_move (v := (.bool false)) (congrArg Value.bool hb2) ?_
                  exact ⟨rfl, hK⟩
                refine d_take (i := 19) (v := (.slice a2 r2_.length cap2)) (l' := #[true, true, true, true, true, true, true, true, true, true, true, true, true, true, true, true, true, true, true, true, false, false, false, false, false, false, false, false, false, false, false, false, false, false, false, false, false, false, false]) rfl (by kernel_rfl) (by kernel_rfl) (by kernel_rfl) rfl rfl (fun _ _ _ h => h) hS24 (fun w hJ K hK => ?_) ?_
                · refine o_on rfl rfl ?_
                  refine o_move (v := (.slice a2 r2_.length cap2)) rfl ?_
                  exact ⟨rfl, hK⟩
                refine d_take (i := 20) (v := v6) (l' := #[true, true, true, true, true, true, true, true, true, true, true, true, true, true, true, true, true, true, true, true, true, false, false, false, false, false, false, false, false, false, false, false, false, false, false, false, false, false, false]) rfl (by kernel_rfl) (by kernel_rfl) (by kernel_rfl) rfl rfl (fun _ _ _ h => h) hS24 (fun w hJ K hK => ?_) ?_
                · refine o_on rfl rfl ?_
                  refine o_move (v := v6) rfl ?_
                  exact ⟨rfl, hK⟩
                refine d_take (i := 21) (v := (.int .i64 ((i_2 : Nat) : Int))) (l' := #[true, true, true, true, true, true, true, true, true, true, true, true, true, true, true, true, true, true, true, true, true, true, false, false, false, false, false, false, false, false, false, false, false, false, false, false, false, false, false]) rfl (by kernel_rfl) (by kernel_rfl) (by kernel_rfl) rfl rfl (fun _ _ _ h => h) hS24 (fun w hJ K hK => ?_) ?_
                · refine o_on rfl rfl ?_
                  refine o_move (v := (.int .i64 ((i_2 : Nat) : Int))) rfl ?_
                  exact ⟨rfl, hK⟩
                obtain ⟨g7, cp7, hv7⟩ := vec_posv (hS24.get (i := 0) rfl) (lt_of_getq hx1)
                refine d_take (i := 22) (v := (.pointer (some ⟨g7, i_2 * 1, none⟩))) (l' := #[true, true, true, true, true, true, true, true, true, true, true, true, true, true, true, true, true, true, true, true, true, true, true, false, false, false, false, false, false, false, false, false, false, false, false, false, false, false, false]) rfl (by kernel_rfl) (by kernel_rfl) (by kernel_rfl) rfl rfl (fun _ _ _ h => h) hS24 (fun w hJ K hK => ?_) ?_
                · refine o_on rfl rfl ?_
                  refine o_iaddr_slice (k := i_2) (a' := ⟨g7, i_2 * 1, none⟩) hv7 rfl rfl (lt_of_getq hx1) Try.underlying29 Try.sizeOf9 (by simp [addr_lit]) ?_
                  exact ⟨rfl, hK⟩
                refine d_take (i := 23) (v := (.string x1_)) (l' := #[true, true, true, true, true, true, true, true, true, true, true, true, true, true, true, true, true, true, true, true, true, true, true, true, false, false, false, false, false, false, false, false, false, false, false, false, false, false, false]) rfl (by kernel_rfl) (by kernel_rfl) (by kernel_rfl) rfl rfl (fun _ _ _ h => h) hS24 (fun w hJ K hK => ?_) ?_
                · refine o_on rfl rfl ?_
                  refine o_load (v := (.string x1_)) rfl Try.isAgg9 (vec_cellv encTx_len (j := 0) hv7 (hJ.get (i := 0) rfl) hx1 rfl) ?_
                  exact ⟨rfl, hK⟩
                refine d_take (i := 24) (v := (.pointer (some ⟨b1, 1, none⟩))) (l' := #[true, true, true, true, true, true, true, true, true, true, true, true, true, true, true, true, true, true, true, true, true, true, true, true, true, false, false, false, false, false, false, false, false, false, false, false, false, false, false]) rfl (by kernel_rfl) (by kernel_rfl) (by kernel_rfl) rfl rfl (fun _ _ _ h => h) hS24 (fun w hJ K hK => ?_) ?_
                · refine o_on rfl rfl ?_
                  refine o_faddr (a' := ⟨b1, 1, none⟩) rfl Try.underlying28 rfl Try.sizeOf9 rfl ?_
                  exact ⟨rfl, hK⟩
                refine d_take (i := 25) (v := (.string r4_)) (l' := #[true, true, true, true, true, true, true, true, true, true, true, true, true, true, true, true, true, true, true, true, true, true, true, true, true, true, false, false, false, false, false, false, false, false, false, false, false, false, false]) rfl (by kernel_rfl) (by kernel_rfl) (by kernel_rfl) rfl rfl (fun _ _ _ h => h) hS24 (fun w hJ K hK => ?_) ?_
                · refine o_on rfl rfl ?_
                  refine o_load (v := (.string r4_)) rfl Try.isAgg9 (hJ.cell (i := 2) rfl rfl) ?_
                  exact ⟨rfl, hK⟩
                refine d_one (i := 26) (by kernel_rfl) rfl (l' := #[true, true, true, true, true, true, true, true, true, true, true, true, true, true, true, true, true, true, true, true, true, true, true, true, true, true, true, false, false, false, false, false, false, false, false, false, false, false, false]) rfl ?_
                refine o_on rfl rfl ?_
                obtain ⟨Y13, hK11, hc10⟩ := hP
                refine o_call (args := [(.slice a2 r2_.length cap2), (.string x1_), (.string r4_)]) rfl Try.call15 (Calls.mono (w_identity_Same r2_ x1_ r4_ (.slice a2 r2_.length cap2) hS24.view (RSl.menc (Sub.trans (Sub.trans hsub1 hsub2) hsub3) hr2) hc10) ?_)
                rintro _ w19 ⟨r10_, rfl, hg10, hY11⟩
                refine ⟨_, rfl, ?_⟩
                have hS25 := hS24.grow hg10
                replace hP := hK11 r10_ hY11
                refine wpList_nil ?_
                refine ⟨rfl, hS25, ?_⟩
                rcases Bool.eq_false_or_eq_true (r10_) with hb4 | hb4
                · replace hP := hP.1 hb4
                  refine d_take (i := 27) (v := (.bool true)) (l' := #[true, true, true, true, true, true, true, true, true, true, true, true, true, true, true, true, true, true, true, true, true, true, true, true, true, true, true, true, false, false, false, false, false, false, false, false, false, false, false]) rfl (by kernel_rfl) (by kernel_rfl) (by kernel_rfl) rfl rfl (fun _ _ _ h => h) hS25 (fun w hJ K hK => ?_) ?_
                  · refine o_on rfl rfl ?_
                    refine o_move (v := (.bool true)) (congrArg Value.bool hb4) ?_
                    exact ⟨rfl, hK⟩
                  refine d_take (i := 28) (v := (.slice a2 r2_.length cap2)) (l' := #[true, true, true, true, true, true, true, true, true, true, true, true, true, true, true, true, true, true, true, true, true, true, true, true, true, true, true, true, true, false, false, false, false, false, false, false, false, false, false]) rfl (by kernel_rfl) (by kernel_rfl) (by kernel_rfl) rfl rfl (fun _ _ _ h => h) hS25 (fun w hJ K hK => ?_) ?_
                  · refine o_on rfl rfl ?_
                    refine o_move (v := (.slice a2 r2_.length cap2)) rfl ?_
                    exact ⟨rfl, hK⟩
                  refine d_take (i := 29) (v := (.pointer (some ⟨b1, 0, none⟩))) (l' := #[true, true, true, true, true, true, true, true, true, true, true, true, true, true, true, true, true, true, true, true, true, true, true, true, true, true, true, true, true, true, false, false, false, false, false, false, false, false, false]) rfl (by kernel_rfl) (by kernel_rfl) (by kernel_rfl) rfl rfl (fun _ _ _ h => h) hS25 (fun w hJ K hK => ?_) ?_
                  · refine o_on rfl rfl ?_
                    refine o_faddr (a' := ⟨b1, 0, none⟩) rfl Try.underlying28 rfl Try.sizeOf9 rfl ?_
                    exact ⟨rfl, hK⟩
                  refine d_take (i := 30) (v := (.string r3_)) (l' := #[true, true, true, true, true, true, true, true, true, true, true, true, true, true, true, true, true, true, true, true, true, true, true, true, true, true, true, true, true, true, true, false, false, false, false, false, false, false, false]) rfl (by kernel_rfl) (by kernel_rfl) (by kernel_rfl) rfl rfl (fun _ _ _ h => h) hS25 (fun w hJ K hK => ?_) ?_
                  · refine o_on rfl rfl ?_
                    refine o_load (v := (.string r3_)) rfl Try.isAgg9 (hJ.cell (i := 2) rfl rfl) ?_
                    exact ⟨rfl, hK⟩
                  refine d_take (i := 31) (v := v6) (l' := #[true, true, true, true, true, true, true, true, true, true, true, true, true, true, true, true, true, true, true, true, true, true, true, true, true, true, true, true, true, true, true, true, false, false, false, false, false, false, false]) rfl (by kernel_rfl) (by kernel_rfl) (by kernel_rfl) rfl rfl (fun _ _ _ h => h) hS25 (fun w hJ K hK => ?_) ?_
                  · refine o_on rfl rfl ?_
                    refine o_move (v := v6) rfl ?_
                    exact ⟨rfl, hK⟩
                  refine d_take (i := 32) (v := (.int .i64 ((k_2 : Nat) : Int))) (l' := #[true, true, true, true, true, true, true, true, true, true, true, true, true, true, true, true, true, true, true, true, true, true, true, true, true, true, true, true, true, true, true, true, true, false, false, false, false, false, false]) rfl (by kernel_rfl) (by kernel_rfl) (by kernel_rfl) rfl rfl (fun _ _ _ h => h) hS25 (fun w hJ K hK => ?_) ?_
                  · refine o_on rfl rfl ?_
                    refine o_move (v := (.int .i64 ((k_2 : Nat) : Int))) rfl ?_
                    exact ⟨rfl, hK⟩
                  obtain ⟨g8, cp8, hv8⟩ := vec_posv (hS25.get (i := 0) rfl) (lt_of_getq hx2)
                  refine d_take (i := 33) (v := (.pointer (some ⟨g8, k_2 * 1, none⟩))) (l' := #[true, true, true, true, true, true, true, true, true, true, true, true, true, true, true, true, true, true, true, true, true, true, true, true, true, true, true, true, true, true, true, true, true, true, false, false, false, false, false]) rfl (by kernel_rfl) (by kernel_rfl) (by kernel_rfl) rfl rfl (fun _ _ _ h => h) hS25 (fun w hJ K hK => ?_) ?_
                  · refine o_on rfl rfl ?_
                    refine o_iaddr_slice (k := k_2) (a' := ⟨g8, k_2 * 1, none⟩) hv8 rfl rfl (lt_of_getq hx2) Try.underlying29 Try.sizeOf9 (by simp [addr_lit]) ?_
                    exact ⟨rfl, hK⟩
                  refine d_take (i := 34) (v := (.string x2_)) (l' := #[true, true, true, true, true, true, true, true, true, true, true, true, true, true, true, true, true, true, true, true, true, true, true, true, true, true, true, true, true, true, true, true, true, true, true, false, false, false, false]) rfl (by kernel_rfl) (by kernel_rfl) (by kernel_rfl) rfl rfl (fun _ _ _ h => h) hS25 (fun w hJ K hK => ?_) ?_
                  · refine o_on rfl rfl ?_
                    refine o_load (v := (.string x2_)) rfl Try.isAgg9 (vec_cellv encTx_len (j := 0) hv8 (hJ.get (i := 0) rfl) hx2 rfl) ?_
                    exact ⟨rfl, hK⟩
                  refine d_one (i := 35) (by kernel_rfl) rfl (l' := #[true, true, true, true, true, true, true, true, true, true, true, true, true, true, true, true, true, true, true, true, true, true, true, true, true, true, true, true, true, true, true, true, true, true, true, true, false, false, false]) rfl ?_
                  refine o_on rfl rfl ?_
                  obtain ⟨Y14, hK12, hc11⟩ := hP
                  refine o_call (args := [(.slice a2 r2_.length cap2), (.string r3_), (.string x2_)]) rfl Try.call15 (Calls.mono (w_identity_Same r2_ r3_ x2_ (.slice a2 r2_.length cap2) hS25.view (RSl.menc (Sub.trans (Sub.trans hsub1 hsub2) hsub3) hr2) hc11) ?_)
                  rintro _ w20 ⟨r11_, rfl, hg11, hY12⟩
                  refine ⟨_, rfl, ?_⟩
                  have hS26 := hS25.grow hg11
                  replace hP := hK12 r11_ hY12
                  refine wpList_nil ?_
                  refine ⟨rfl, hS26, ?_⟩
                  refine d_take (i := 36) (v := (.bool (r11_))) (l' := #[true, true, true, true, true, true, true, true, true, true, true, true, true, true, true, true, true, true, true, true, true, true, true, true, true, true, true, true, true, true, true, true, true, true, true, true, true, false, false]) rfl (by kernel_rfl) (by kernel_rfl) (by kernel_rfl) rfl rfl (fun _ _ _ h => h) hS26 (fun w hJ K hK => ?_) ?_
                  · refine o_on rfl rfl ?_
                    refine o_pick_t (v := (.bool (r11_))) rfl rfl ?_
                    exact ⟨rfl, hK⟩
                  refine d_take (i := 37) (v := (.bool (r11_))) (l' := #[true, true, true, true, true, true, true, true, true, true, true, true, true, true, true, true, true, true, true, true, true, true, true, true, true, true, true, true, true, true, true, true, true, true, true, true, true, true, false]) rfl (by kernel_rfl) (by kernel_rfl) (by kernel_rfl) rfl rfl (fun _ _ _ h => h) hS26 (fun w hJ K hK => ?_) ?_
                  · refine o_pick_f (v := (.bool (r11_))) rfl rfl ?_
                    exact ⟨rfl, hK⟩
                  refine d_take (i := 38) (v := (.bool (r11_))) (l' := #[true, true, true, true, true, true, true, true, true, true, true, true, true, true, true, true, true, true, true, true, true, true, true, true, true, true, true, true, true, true, true, true, true, true, true, true, true, true, true]) rfl (by kernel_rfl) (by kernel_rfl) (by kernel_rfl) rfl rfl (fun _ _ _ h => h) hS26 (fun w hJ K hK => ?_) ?_
                  · refine o_assign (v := (.bool (r11_))) rfl ?_
                    exact ⟨rfl, hK⟩
                  refine d_done (by kernel_rfl) ?_
                  refine then_n ?_
                  refine seq_reg ?_
                  refine o_move (v := (.bool (r7_))) rfl ?_
                  refine o_move (v := (.bool (r6_))) rfl ?_
                  rcases Bool.eq_false_or_eq_true (r6_) with hb5 | hb5
                  · replace hP := hP.1 hb5
                    refine o_move (v := (.bool true)) (congrArg Value.bool hb5) ?_
                    refine o_off rfl rfl ?_
                    refine o_pick_t (v := (.bool true)) rfl rfl ?_
                    refine o_neqb (r := (!(r7_) == true)) Try.underlying4 rfl rfl rfl ?_
                    refine wpList_nil ?_
                    refine then_n ?_
                    refine if_nb rfl (fun ht7 => ?_) (fun ht7 => ?_)
                    · replace hP := hP.2 (by simp [ht7])
                      refine seq_reg ?_
                      refine o_assign (v := (.bool false)) rfl ?_
                      refine wpList_nil ?_
                      refine then_n ?_
                      refine wp_ret ?_
                      refine blk_r ?_
                      refine then_r ?_
                      refine then_r ?_
                      refine blk_r ?_
                      refine blk_r ?_
                      refine then_r ?_
                      refine then_r ?_
                      refine blk_r ?_
                      refine then_r ?_
                      refine ret1 rfl (show ev _ _ _ = (.bool false) from rfl) ?_
                      exact ⟨false, rfl, hS26.done.forget, hP⟩
                    · replace hP := hP.1 ht7
                      refine wp_skip ?_
                      refine blk_n ?_
                      refine then_n ?_
                      refine one_reg ?_
                      refine o_move (v := (.int .i64 ((k_2 : Nat) : Int))) rfl ?_
                      refine o_add (r := ((k_2 + 1 : Nat) : Int)) rfl rfl (nw (by omega) (by omega) (by have := hlen2; omega)) ?_
                      refine o_assign (v := (.int .i64 ((k_2 + 1 : Nat) : Int))) rfl ?_
                      refine wpList_nil ?_
                      refine then_n ?_
                      exact ⟨k_2 + 1, _, rfl, hP, σ4, _, (upd_in rfl (upd_in rfl (upd_in rfl (upd_in rfl (upd_in rfl (upd_in rfl rfl)))))), hS26, hsub3⟩
                  · replace hP := hP.2 (by simp [hb5])
                    refine o_move (v := (.bool false)) (congrArg Value.bool hb5) ?_
                    refine o_on rfl rfl ?_
                    refine o_move (v := (.bool (r11_))) rfl ?_
                    refine o_pick_f (v := (.bool (r11_))) rfl rfl ?_
                    refine o_neqb (r := (!(r7_) == (r11_))) Try.underlying4 rfl rfl rfl ?_
                    refine wpList_nil ?_
                    refine then_n ?_
                    refine if_nb rfl (fun ht8 => ?_) (fun ht8 => ?_)
                    · replace hP := hP.2 (by simp [ht8])
                      refine seq_reg ?_
                      refine o_assign (v := (.bool false)) rfl ?_
                      refine wpList_nil ?_
                      refine then_n ?_
                      refine wp_ret ?_
                      refine blk_r ?_
                      refine then_r ?_
                      refine then_r ?_
                      refine blk_r ?_
                      refine blk_r ?_
                      refine then_r ?_
                      refine then_r ?_
                      refine blk_r ?_
                      refine then_r ?_
                      refine ret1 rfl (show ev _ _ _ = (.bool false) from rfl) ?_
                      exact ⟨false, rfl, hS26.done.forget, hP⟩
                    · replace hP := hP.1 ht8
                      refine wp_skip ?_
                      refine blk_n ?_
                      refine then_n ?_
                      refine one_reg ?_
                      refine o_move (v := (.int .i64 ((k_2 : Nat) : Int))) rfl ?_
                      refine o_add (r := ((k_2 + 1 : Nat) : Int)) rfl rfl (nw (by omega) (by omega) (by have := hlen2; omega)) ?_
                      refine o_assign (v := (.int .i64 ((k_2 + 1 : Nat) : Int))) rfl ?_
                      refine wpList_nil ?_
                      refine then_n ?_
                      exact ⟨k_2 + 1, _, rfl, hP, σ4, _, (upd_in rfl (upd_in rfl (upd_in rfl (upd_in rfl (upd_in rfl (upd_in rfl rfl)))))), hS26, hsub3⟩
                · replace hP := hP.2 (by simp [hb4])
                  refine d_take (i := 27) (v := (.bool false)) (l' := #[true, true, true, true, true, true, true, true, true, true, true, true, true, true, true, true, true, true, true, true, true, true, true, true, true, true, true, true, false, false, false, false, false, false, false, false, false, false, false]) rfl (by kernel_rfl) (by kernel_rfl) (by kernel_rfl) rfl rfl (fun _ _ _ h => h) hS25 (fun w hJ K hK => ?_) ?_
                  · refine o_on rfl rfl ?_
                    refine o_move (v := (.bool false)) (congrArg Value.bool hb4) ?_
                    exact ⟨rfl, hK⟩
                  refine d_take (i := 28) (v := undef) (l' := #[true, true, true, true, true, true, true, true, true, true, true, true, true, true, true, true, true, true, true, true, true, true, true, true, true, true, true, true, true, false, false, false, false, false, false, false, false, false, false]) rfl (by kernel_rfl) (by kernel_rfl) (by kernel_rfl) rfl rfl (fun _ _ _ h => h) hS25 (fun w hJ K hK => ?_) ?_
                  · refine o_off rfl rfl ?_
                    exact ⟨rfl, hK⟩
                  refine d_take (i := 29) (v := undef) (l' := #[true, true, true, true, true, true, true, true, true, true, true, true, true, true, true, true, true, true, true, true, true, true, true, true, true, true, true, true, true, true, false, false, false, false, false, false, false, false, false]) rfl (by kernel_rfl) (by kernel_rfl) (by kernel_rfl) rfl rfl (fun _ _ _ h => h) hS25 (fun w hJ K hK => ?_) ?_
                  · refine o_off rfl rfl ?_
                    exact ⟨rfl, hK⟩
                  refine d_take (i := 30) (v := undef) (l' := #[true, true, true, true, true, true, true, true, true, true, true, true, true, true, true, true, true, true, true, true, true, true, true, true, true, true, true, true, true, true, true, false, false, false, false, false, false, false, false]) rfl (by kernel_rfl) (by kernel_rfl) (by kernel_rfl) rfl rfl (fun _ _ _ h => h) hS25 (fun w hJ K hK => ?_) ?_
                  · refine o_off rfl rfl ?_
                    exact ⟨rfl, hK⟩
                  refine d_take (i := 31) (v := undef) (l' := #[true, true, true, true, true, true, true, true, true, true, true, true, true, true, true, true, true, true, true, true, true, true, true, true, true, true, true, true, true, true, true, true, false, false, false, false, false, false, false]) rfl (by kernel_rfl) (by kernel_rfl) (by kernel_rfl) rfl rfl (fun _ _ _ h => h) hS25 (fun w hJ K hK => ?_) ?_
                  · refine o_off rfl rfl ?_
                    exact ⟨rfl, hK⟩
                  refine d_take (i := 32) (v := undef) (l' := #[true, true, true, true, true, true, true, true, true, true, true, true, true, true, true, true, true, true, true, true, true, true, true, true, true, true, true, true, true, true, true, true, true, false, false, false, false, false, false]) rfl (by kernel_rfl) (by kernel_rfl) (by kernel_rfl) rfl rfl (fun _ _ _ h => h) hS25 (fun w hJ K hK => ?_) ?_
                  · refine o_off rfl rfl ?_
                    exact ⟨rfl, hK⟩
                  refine d_take (i := 33) (v := undef) (l' := #[true, true, true, true, true, true, true, true, true, true, true, true, true, true, true, true, true, true, true, true, true, true, true, true, true, true, true, true, true, true, true, true, true, true, false, false, false, false, false]) rfl (by kernel_rfl) (by kernel_rfl) (by kernel_rfl) rfl rfl (fun _ _ _ h => h) hS25 (fun w hJ K hK => ?_) ?_
                  · refine o_off rfl rfl ?_
                    exact ⟨rfl, hK⟩
                  refine d_take (i := 34) (v := undef) (l' := #[true, true, true, true, true, true, true, true, true, true, true, true, true, true, true, true, true, true, true, true, true, true, true, true, true, true, true, true, true, true, true, true, true, true, true, false, false, false, false]) rfl (by kernel_rfl) (by kernel_rfl) (by kernel_rfl) rfl rfl (fun _ _ _ h => h) hS25 (fun w hJ K hK => ?_) ?_
                  · refine o_off rfl rfl ?_
                    exact ⟨rfl, hK⟩
                  refine d_take (i := 35) (v := undef) (l' := #[true, true, true, true, true, true, true, true, true, true, true, true, true, true, true, true, true, true, true, true, true, true, true, true, true, true, true, true, true, true, true, true, true, true, true, true, false, false, false]) rfl (by kernel_rfl) (by kernel_rfl) (by kernel_rfl) rfl rfl (fun _ _ _ h => h) hS25 (fun w hJ K hK => ?_) ?_
                  · refine o_off rfl rfl ?_
                    exact ⟨rfl, hK⟩
                  refine d_take (i := 36) (v := (.bool false)) (l' := #[true, true, true, true, true, true, true, true, true, true, true, true, true, true, true, true, true, true, true, true, true, true, true, true, true, true, true, true, true, true, true, true, true, true, true, true, true, false, false]) rfl (by kernel_rfl) (by kernel_rfl) (by kernel_rfl) rfl rfl (fun _ _ _ h => h) hS25 (fun w hJ K hK => ?_) ?_
                  · refine o_on rfl rfl ?_
                    refine o_pick_f (v := (.bool false)) rfl rfl ?_
                    exact ⟨rfl, hK⟩
                  refine d_take (i := 37) (v := (.bool false)) (l' := #[true, true, true, true, true, true, true, true, true, true, true, true, true, true, true, true, true, true, true, true, true, true, true, true, true, true, true, true, true, true, true, true, true, true, true, true, true, true, false]) rfl (by kernel_rfl) (by kernel_rfl) (by kernel_rfl) rfl rfl (fun _ _ _ h => h) hS25 (fun w hJ K hK => ?_) ?_
                  · refine o_pick_f (v := (.bool false)) rfl rfl ?_
                    exact ⟨rfl, hK⟩
                  refine d_take (i := 38) (v := (.bool false)) (l' := #[true, true, true, true, true, true, true, true, true, true, true, true, true, true, true, true, true, true, true, true, true, true, true, true, true, true, true, true, true, true, true, true, true, true, true, true, true, true, true]) rfl (by kernel_rfl) (by kernel_rfl) (by kernel_rfl) rfl rfl (fun _ _ _ h => h) hS25 (fun w hJ K hK => ?_) ?_
                  · refine o_assign (v := (.bool false)) rfl ?_
                    exact ⟨rfl, hK⟩
                  refine d_done (by kernel_rfl) ?_
                  refine then_n ?_
                  refine seq_reg ?_
                  refine o_move (v := (.bool (r7_))) rfl ?_
                  refine o_move (v := (.bool (r6_))) rfl ?_
                  rcases Bool.eq_false_or_eq_true (r6_) with hb6 | hb6
                  · replace hP := hP.1 hb6
                    refine o_move (v := (.bool true)) (congrArg Value.bool hb6) ?_
                    refine o_off rfl rfl ?_
                    refine o_pick_t (v := (.bool true)) rfl rfl ?_
                    refine o_neqb (r := (!(r7_) == true)) Try.underlying4 rfl rfl rfl ?_
                    refine wpList_nil ?_
                    refine then_n ?_
                    refine if_nb rfl (fun ht9 => ?_) (fun ht9 => ?_)
                    · replace hP := hP.2 (by simp [ht9])
                      refine seq_reg ?_
                      refine o_assign (v := (.bool false)) rfl ?_
                      refine wpList_nil ?_
                      refine then_n ?_
                      refine wp_ret ?_
                      refine blk_r ?_
                      refine then_r ?_
                      refine then_r ?_
                      refine blk_r ?_
                      refine blk_r ?_
                      refine then_r ?_
                      refine then_r ?_
                      refine blk_r ?_
                      refine then_r ?_
                      refine ret1 rfl (show ev _ _ _ = (.bool false) from rfl) ?_
                      exact ⟨false, rfl, hS25.done.forget, hP⟩
                    · replace hP := hP.1 ht9
                      refine wp_skip ?_
                      refine blk_n ?_
                      refine then_n ?_
                      refine one_reg ?_
                      refine o_move (v := (.int .i64 ((k_2 : Nat) : Int))) rfl ?_
                      refine o_add (r := ((k_2 + 1 : Nat) : Int)) rfl rfl (nw (by omega) (by omega) (by have := hlen2; omega)) ?_
                      refine o_assign (v := (.int .i64 ((k_2 + 1 : Nat) : Int))) rfl ?_
                      refine wpList_nil ?_
                      refine then_n ?_
                      exact ⟨k_2 + 1, _, rfl, hP, σ4, _, (upd_in rfl (upd_in rfl (upd_in rfl (upd_in rfl (upd_in rfl (upd_in rfl rfl)))))), hS25, hsub3⟩
                  · replace hP := hP.2 (by simp [hb6])
                    refine o_move (v := (.bool false)) (congrArg Value.bool hb6) ?_
                    refine o_on rfl rfl ?_
                    refine o_move (v := (.bool false)) rfl ?_
                    refine o_pick_f (v := (.bool false)) rfl rfl ?_
                    refine o_neqb (r := (!(r7_) == false)) Try.underlying4 rfl rfl rfl ?_
                    refine wpList_nil ?_
                    refine then_n ?_
                    refine if_nb rfl (fun ht10 => ?_) (fun ht10 => ?_)
                    · replace hP := hP.2 (by simp [ht10])
                      refine seq_reg ?_
                      refine o_assign (v := (.bool false)) rfl ?_
                      refine wpList_nil ?_
                      refine then_n ?_
                      refine wp_ret ?_
                      refine blk_r ?_
                      refine then_r ?_
                      refine then_r ?_
                      refine blk_r ?_
                      refine blk_r ?_
                      refine then_r ?_
                      refine then_r ?_
                      refine blk_r ?_
                      refine then_r ?_
                      refine ret1 rfl (show ev _ _ _ = (.bool false) from rfl) ?_
                      exact ⟨false, rfl, hS25.done.forget, hP⟩
                    · replace hP := hP.1 ht10
                      refine wp_skip ?_
                      refine blk_n ?_
                      refine then_n ?_
                      refine one_reg ?_
                      refine o_move (v := (.int .i64 ((k_2 : Nat) : Int))) rfl ?_
                      refine o_add (r := ((k_2 + 1 : Nat) : Int)) rfl rfl (nw (by omega) (by omega) (by have := hlen2; omega)) ?_
                      refine o_assign (v := (.int .i64 ((k_2 + 1 : Nat) : Int))) rfl ?_
                      refine wpList_nil ?_
                      refine then_n ?_
                      exact ⟨k_2 + 1, _, rfl, hP, σ4, _, (upd_in rfl (upd_in rfl (upd_in rfl (upd_in rfl (upd_in rfl (upd_in rfl rfl)))))), hS25, hsub3⟩
            · replace hP := hP.2 (by simp [hb1])
              refine d_take (i := 8) (v := (.bool false)) (l' := #[true, true, true, true, true, true, true, true, true, false, false, false, false, false, false, false, false, false, false, false, false, false, false, false, false, false, false, false, false, false, false, false, false, false, false, false, false, false, false]) rfl (by kernel_rfl) (by kernel_rfl) (by kernel_rfl) rfl rfl (fun _ _ _ h => h) hS23 (fun w hJ K hK => ?_) ?_
              · refine o_move (v := (.bool false)) (congrArg Value.bool hb1) ?_
                exact ⟨rfl, hK⟩
              refine d_take (i := 9) (v := undef) (l' := #[true, true, true, true, true, true, true, true, true, true, false, false, false, false, false, false, false, false, false, false, false, false, false, false, false, false, false, false, false, false, false, false, false, false, false, false, false, false, false]) rfl (by kernel_rfl) (by kernel_rfl) (by kernel_rfl) rfl rfl (fun _ _ _ h => h) hS23 (fun w hJ K hK => ?_) ?_
              · refine o_off rfl rfl ?_
                exact ⟨rfl, hK⟩
              refine d_take (i := 10) (v := undef) (l' := #[true, true, true, true, true, true, true, true, true, true, true, false, false, false, false, false, false, false, false, false, false, false, false, false, false, false, false, false, false, false, false, false, false, false, false, false, false, false, false]) rfl (by kernel_rfl) (by kernel_rfl) (by kernel_rfl) rfl rfl (fun _ _ _ h => h) hS23 (fun w hJ K hK => ?_) ?_
              · refine o_off rfl rfl ?_
                exact ⟨rfl, hK⟩
              refine d_take (i := 11) (v := undef) (l' := #[true, true, true, true, true, true, true, true, true, true, true, true, false, false, false, false, false, false, false, false, false, false, false, false, false, false, false, false, false, false, false, false, false, false, false, false, false, false, false]) rfl (by kernel_rfl) (by kernel_rfl) (by kernel_rfl) rfl rfl (fun _ _ _ h => h) hS23 (fun w hJ K hK => ?_) ?_
              · refine o_off rfl rfl ?_
                exact ⟨rfl, hK⟩
              refine d_take (i := 12) (v := undef) (l' := #[true, true, true, true, true, true, true, true, true, true, true, true, true, false, false, false, false, false, false, false, false, false, false, false, false, false, false, false, false, false, false, false, false, false, false, false, false, false, false]) rfl (by kernel_rfl) (by kernel_rfl) (by kernel_rfl) rfl rfl (fun _ _ _ h => h) hS23 (fun w hJ K hK => ?_) ?_
              · refine o_off rfl rfl ?_
                exact ⟨rfl, hK⟩
              refine d_take (i := 13) (v := undef) (l' := #[true, true, true, true, true, true, true, true, true, true, true, true, true, true, false, false, false, false, false, false, false, false, false, false, false, false, false, false, false, false, false, false, false, false, false, false, false, false, false]) rfl (by kernel_rfl) (by kernel_rfl) (by kernel_rfl) rfl rfl (fun _ _ _ h => h) hS23 (fun w hJ K hK => ?_) ?_
              · refine o_off rfl rfl ?_
                exact ⟨rfl, hK⟩
              refine d_take (i := 14) (v := undef) (l' := #[true, true, true, true, true, true, true, true, true, true, true, true, true, true, true, false, false, false, false, false, false, false, false, false, false, false, false, false, false, false, false, false, false, false, false, false, false, false, false]) rfl (by kernel_rfl) (by kernel_rfl) (by kernel_rfl) rfl rfl (fun _ _ _ h => h) hS23 (fun w hJ K hK => ?_) ?_
              · refine o_off rfl rfl ?_
                exact ⟨rfl, hK⟩
              refine d_take (i := 15) (v := undef) (l' := #[true, true, true, true, true, true, true, true, true, true, true, true, true, true, true, true, false, false, false, false, false, false, false, false, false, false, false, false, false, false, false, false, false, false, false, false, false, false, false]) rfl (by kernel_rfl) (by kernel_rfl) (by kernel_rfl) rfl rfl (fun _ _ _ h => h) hS23 (fun w hJ K hK => ?_) ?_
              · refine o_off rfl rfl ?_
                exact ⟨rfl, hK⟩
              refine d_take (i := 16) (v := undef) (l' := #[true, true, true, true, true, true, true, true, true, true, true, true, true, true, true, true, true, false, false, false, false, false, false, false, false, false, false, false, false, false, false, false, false, false, false, false, false, false, false]) rfl (by kernel_rfl) (by kernel_rfl) (by kernel_rfl) rfl rfl (fun _ _ _ h => h) hS23 (fun w hJ K hK => ?_) ?_
              · refine o_off rfl rfl ?_
                exact ⟨rfl, hK⟩
              refine d_take (i := 17) (v := (.bool false)) (l' := #[true, true, true, true, true, true, true, true, true, true, true, true, true, true, true, true, true, true, false, false, false, false, false, false, false, false, false, false, false, false, false, false, false, false, false, false, false, false, false]) rfl (by kernel_rfl) (by kernel_rfl) (by kernel_rfl) rfl rfl (fun _ _ _ h => h) hS23 (fun w hJ K hK => ?_) ?_
              · refine o_pick_f (v := (.bool false)) rfl rfl ?_
                exact ⟨rfl, hK⟩
              refine d_take (i := 18) (v := (.bool false)) (l' := #[true, true, true, true, true, true, true, true, true, true, true, true, true, true, true, true, true, true, true, false, false, false, false, false, false, false, false, false, false, false, false, false, false, false, false, false, false, false, false]) rfl (by kernel_rfl) (by kernel_rfl) (by kernel_rfl) rfl rfl (fun _ _ _ h => h) hS23 (fun w hJ K hK => ?_) ?_
              · refine o_move (v := (.bool false)) rfl ?_
                exact ⟨rfl, hK⟩
              refine d_take (i := 19) (v := (.slice a2 r2_.length cap2)) (l' := #[true, true, true, true, true, true, true, true, true, true, true, true, true, true, true, true, true, true, true, true, false, false, false, false, false, false, false, false, false, false, false, false, false, false, false, false, false, false, false]) rfl (by kernel_rfl) (by kernel_rfl) (by kernel_rfl) rfl rfl (fun _ _ _ h => h) hS23 (fun w hJ K hK => ?_) ?_
              · refine o_on rfl rfl ?_
                refine o_move (v := (.slice a2 r2_.length cap2)) rfl ?_
                exact ⟨rfl, hK⟩
              refine d_take (i := 20) (v := v6) (l' := #[true, true, true, true, true, true, true, true, true, true, true, true, true, true, true, true, true, true, true, true, true, false, false, false, false, false, false, false, false, false, false, false, false, false, false, false, false, false, false]) rfl (by kernel_rfl) (by kernel_rfl) (by kernel_rfl) rfl rfl (fun _ _ _ h => h) hS23 (fun w hJ K hK => ?_) ?_
              · refine o_on rfl rfl ?_
                refine o_move (v := v6) rfl ?_
                exact ⟨rfl, hK⟩
              refine d_take (i := 21) (v := (.int .i64 ((i_2 : Nat) : Int))) (l' := #[true, true, true, true, true, true, true, true, true, true, true, true, true, true, true, true, true, true, true, true, true, true, false, false, false, false, false, false, false, false, false, false, false, false, false, false, false, false, false]) rfl (by kernel_rfl) (by kernel_rfl) (by kernel_rfl) rfl rfl (fun _ _ _ h => h) hS23 (fun w hJ K hK => ?_) ?_
              · refine o_on rfl rfl ?_
                refine o_move (v := (.int .i64 ((i_2 : Nat) : Int))) rfl ?_
                exact ⟨rfl, hK⟩
              obtain ⟨g9, cp9, hv9⟩ := vec_posv (hS23.get (i := 0) rfl) (lt_of_getq hx1)
              refine d_take (i := 22) (v := (.pointer (some ⟨g9, i_2 * 1, none⟩))) (l' := #[true, true, true, true, true, true, true, true, true, true, true, true, true, true, true, true, true, true, true, true, true, true, true, false, false, false, false, false, false, false, false, false, false, false, false, false, false, false, false]) rfl (by kernel_rfl) (by kernel_rfl) (by kernel_rfl) rfl rfl (fun _ _ _ h => h) hS23 (fun w hJ K hK => ?_) ?_
              · refine o_on rfl rfl ?_
                refine o_iaddr_slice (k := i_2) (a' := ⟨g9, i_2 * 1, none⟩) hv9 rfl rfl (lt_of_getq hx1) Try.underlying29 Try.sizeOf9 (by simp [addr_lit]) ?_
                exact ⟨rfl, hK⟩
              refine d_take (i := 23) (v := (.string x1_)) (l' := #[true, true, true, true, true, true, true, true, true, true, true, true, true, true, true, true, true, true, true, true, true, true, true, true, false, false, false, false, false, false, false, false, false, false, false, false, false, false, false]) rfl (by kernel_rfl) (by kernel_rfl) (by kernel_rfl) rfl rfl (fun _ _ _ h => h) hS23 (fun w hJ K hK => ?_) ?_
              · refine o_on rfl rfl ?_
                refine o_load (v := (.string x1_)) rfl Try.isAgg9 (vec_cellv encTx_len (j := 0) hv9 (hJ.get (i := 0) rfl) hx1 rfl) ?_
                exact ⟨rfl, hK⟩
              refine d_take (i := 24) (v := (.pointer (some ⟨b1, 1, none⟩))) (l' := #[true, true, true, true, true, true, true, true, true, true, true, true, true, true, true, true, true, true, true, true, true, true, true, true, true, false, false, false, false, false, false, false, false, false, false, false, false, false, false]) rfl (by kernel_rfl) (by kernel_rfl) (by kernel_rfl) rfl rfl (fun _ _ _ h => h) hS23 (fun w hJ K hK => ?_) ?_
              · refine o_on rfl rfl ?_
                refine o_faddr (a' := ⟨b1, 1, none⟩) rfl Try.underlying28 rfl Try.sizeOf9 rfl ?_
                exact ⟨rfl, hK⟩
              refine d_take (i := 25) (v := (.string r4_)) (l' := #[true, true, true, true, true, true, true, true, true, true, true, true, true, true, true, true, true, true, true, true, true, true, true, true, true, true, false, false, false, false, false, false, false, false, false, false, false, false, false]) rfl (by kernel_rfl) (by kernel_rfl) (by kernel_rfl) rfl rfl (fun _ _ _ h => h) hS23 (fun w hJ K hK => ?_) ?_
              · refine o_on rfl rfl ?_
                refine o_load (v := (.string r4_)) rfl Try.isAgg9 (hJ.cell (i := 2) rfl rfl) ?_
                exact ⟨rfl, hK⟩
              refine d_one (i := 26) (by kernel_rfl) rfl (l' := #[true, true, true, true, true, true, true, true, true, true, true, true, true, true, true, true, true, true, true, true, true, true, true, true, true, true, true, false, false, false, false, false, false, false, false, false, false, false, false]) rfl ?_
              refine o_on rfl rfl ?_
              obtain ⟨Y15, hK13, hc12⟩ := hP
              refine o_call (args := [(.slice a2 r2_.length cap2), (.string x1_), (.string r4_)]) rfl Try.call15 (Calls.mono (w_identity_Same r2_ x1_ r4_ (.slice a2 r2_.length cap2) hS23.view (RSl.menc (Sub.trans (Sub.trans hsub1 hsub2) hsub3) hr2) hc12) ?_)
              rintro _ w21 ⟨r12_, rfl, hg12, hY13⟩
              refine ⟨_, rfl, ?_⟩
              have hS27 := hS23.grow hg12
              replace hP := hK13 r12_ hY13
              refine wpList_nil ?_
              refine ⟨rfl, hS27, ?_⟩
              rcases Bool.eq_false_or_eq_true (r12_) with hb7 | hb7
              · replace hP := hP.1 hb7
                refine d_take (i := 27) (v := (.bool true)) (l' := #[true, true, true, true, true, true, true, true, true, true, true, true, true, true, true, true, true, true, true, true, true, true, true, true, true, true, true, true, false, false, false, false, false, false, false, false, false, false, false]) rfl (by kernel_rfl) (by kernel_rfl) (by kernel_rfl) rfl rfl (fun _ _ _ h => h) hS27 (fun w hJ K hK => ?_) ?_
                · refine o_on rfl rfl ?_
                  refine o_move (v := (.bool true)) (congrArg Value.bool hb7) ?_
                  exact ⟨rfl, hK⟩
                refine d_take (i := 28) (v := (.slice a2 r2_.length cap2)) (l' := #[true, true, true, true, true, true, true, true, true, true, true, true, true, true, true, true, true, true, true, true, true, true, true, true, true, true, true, true, true, false, false, false, false, false, false, false, false, false, false]) rfl (by kernel_rfl) (by kernel_rfl) (by kernel_rfl) rfl rfl (fun _ _ _ h => h) hS27 (fun w hJ K hK => ?_) ?_
                · refine o_on rfl rfl ?_
                  refine o_move (v := (.slice a2 r2_.length cap2)) rfl ?_
                  exact ⟨rfl, hK⟩
                refine d_take (i := 29) (v := (.pointer (some ⟨b1, 0, none⟩))) (l' := #[true, true, true, true, true, true, true, true, true, true, true, true, true, true, true, true, true, true, true, true, true, true, true, true, true, true, true, true, true, true, false, false, false, false, false, false, false, false, false]) rfl (by kernel_rfl) (by kernel_rfl) (by kernel_rfl) rfl rfl (fun _ _ _ h => h) hS27 (fun w hJ K hK => ?_) ?_
                · refine o_on rfl rfl ?_
                  refine o_faddr (a' := ⟨b1, 0, none⟩) rfl Try.underlying28 rfl Try.sizeOf9 rfl ?_
                  exact ⟨rfl, hK⟩
                refine d_take (i := 30) (v := (.string r3_)) (l' := #[true, true, true, true, true, true, true, true, true, true, true, true, true, true, true, true, true, true, true, true, true, true, true, true, true, true, true, true, true, true, true, false, false, false, false, false, false, false, false]) rfl (by kernel_rfl) (by kernel_rfl) (by kernel_rfl) rfl rfl (fun _ _ _ h => h) hS27 (fun w hJ K hK => ?_) ?_
                · refine o_on rfl rfl ?_
                  refine o_load (v := (.string r3_)) rfl Try.isAgg9 (hJ.cell (i := 2) rfl rfl) ?_
                  exact ⟨rfl, hK⟩
                refine d_take (i := 31) (v := v6) (l' := #[true, true, true, true, true, true, true, true, true, true, true, true, true, true, true, true, true, true, true, true, true, true, true, true, true, true, true, true, true, true, true, true, false, false, false, false, false, false, false]) rfl (by kernel_rfl) (by kernel_rfl) (by kernel_rfl) rfl rfl (fun _ _ _ h => h) hS27 (fun w hJ K hK => ?_) ?_
                · refine o_on rfl rfl ?_
                  refine o_move (v := v6) rfl ?_
                  exact ⟨rfl, hK⟩
                refine d_take (i := 32) (v := (.int .i64 ((k_2 : Nat) : Int))) (l' := #[true, true, true, true, true, true, true, true, true, true, true, true, true, true, true, true, true, true, true, true, true, true, true, true, true, true, true, true, true, true, true, true, true, false, false, false, false, false, false]) rfl (by kernel_rfl) (by kernel_rfl) (by kernel_rfl) rfl rfl (fun _ _ _ h => h) hS27 (fun w hJ K hK => ?_) ?_
                · refine o_on rfl rfl ?_
                  refine o_move (v := (.int .i64 ((k_2 : Nat) : Int))) rfl ?_
                  exact ⟨rfl, hK⟩
                obtain ⟨g10, cp10, hv10⟩ := vec_posv (hS27.get (i := 0) rfl) (lt_of_getq hx2)
                refine d_take (i := 33) (v := (.pointer (some ⟨g10, k_2 * 1, none⟩))) (l' := #[true, true, true, true, true, true, true, true, true, true, true, true, true, true, true, true, true, true, true, true, true, true, true, true, true, true, true, true, true, true, true, true, true, true, false, false, false, false, false]) rfl (by kernel_rfl) (by kernel_rfl) (by kernel_rfl) rfl rfl (fun _ _ _ h => h) hS27 (fun w hJ K hK => ?_) ?_
                · refine o_on rfl rfl ?_
                  refine o_iaddr_slice (k := k_2) (a' := ⟨g10, k_2 * 1, none⟩) hv10 rfl rfl (lt_of_getq hx2) Try.underlying29 Try.sizeOf9 (by simp [addr_lit]) ?_
                  exact ⟨rfl, hK⟩
                refine d_take (i := 34) (v := (.string x2_)) (l' := #[true, true, true, true, true, true, true, true, true, true, true, true, true, true, true, true, true, true, true, true, true, true, true, true, true, true, true, true, true, true, true, true, true, true, true, false, false, false, false]) rfl (by kernel_rfl) (by kernel_rfl) (by kernel_rfl) rfl rfl (fun _ _ _ h => h) hS27 (fun w hJ K hK => ?_) ?_
                · refine o_on rfl rfl ?_
                  refine o_load (v := (.string x2_)) rfl Try.isAgg9 (vec_cellv encTx_len (j := 0) hv10 (hJ.get (i := 0) rfl) hx2 rfl) ?_
                  exact ⟨rfl, hK⟩
                refine d_one (i := 35) (by kernel_rfl) rfl (l' := #[true, true, true, true, true, true, true, true, true, true, true, true, true, true, true, true, true, true, true, true, true, true, true, true, true, true, true, true, true, true, true, true, true, true, true, true, false, false, false]) rfl ?_
                refine o_on rfl rfl ?_
                obtain ⟨Y16, hK14, hc13⟩ := hP
                refine o_call (args := [(.slice a2 r2_.length cap2), (.string r3_), (.string x2_)]) rfl Try.call15 (Calls.mono (w_identity_Same r2_ r3_ x2_ (.slice a2 r2_.length cap2) hS27.view (RSl.menc (Sub.trans (Sub.trans hsub1 hsub2) hsub3) hr2) hc13) ?_)
                rintro _ w22 ⟨r13_, rfl, hg13, hY14⟩
                refine ⟨_, rfl, ?_⟩
                have hS28 := hS27.grow hg13
                replace hP := hK14 r13_ hY14
                refine wpList_nil ?_
                refine ⟨rfl, hS28, ?_⟩
                refine d_take (i := 36) (v := (.bool (r13_))) (l' := #[true, true, true, true, true, true, true, true, true, true, true, true, true, true, true, true, true, true, true, true, true, true, true, true, true, true, true, true, true, true, true, true, true, true, true, true, true, false, false]) rfl (by kernel_rfl) (by kernel_rfl) (by kernel_rfl) rfl rfl (fun _ _ _ h => h) hS28 (fun w hJ K hK => ?_) ?_
                · refine o_on rfl rfl ?_
                  refine o_pick_t (v := (.bool (r13_))) rfl rfl ?_
                  exact ⟨rfl, hK⟩
                refine d_take (i := 37) (v := (.bool (r13_))) (l' := #[true, true, true, true, true, true, true, true, true, true, true, true, true, true, true, true, true, true, true, true, true, true, true, true, true, true, true, true, true, true, true, true, true, true, true, true, true, true, false]) rfl (by kernel_rfl) (by kernel_rfl) (by kernel_rfl) rfl rfl (fun _ _ _ h => h) hS28 (fun w hJ K hK => ?_) ?_
                · refine o_pick_f (v := (.bool (r13_))) rfl rfl ?_
                  exact ⟨rfl, hK⟩
                refine d_take (i := 38) (v := (.bool (r13_))) (l' := #[true, true, true, true, true, true, true, true, true, true, true, true, true, true, true, true, true, true, true, true, true, true, true, true, true, true, true, true, true, true, true, true, true, true, true, true, true, true, true]) rfl (by kernel_rfl) (by kernel_rfl) (by kernel_rfl) rfl rfl (fun _ _ _ h => h) hS28 (fun w hJ K hK => ?_) ?_
                · refine o_assign (v := (.bool (r13_))) rfl ?_
                  exact ⟨rfl, hK⟩
                refine d_done (by kernel_rfl) ?_
                refine then_n ?_
                refine seq_reg ?_
                refine o_move (v := (.bool (r7_))) rfl ?_
                refine o_move (v := (.bool (r6_))) rfl ?_
                rcases Bool.eq_false_or_eq_true (r6_) with hb8 | hb8
                · replace hP := hP.1 hb8
                  refine o_move (v := (.bool true)) (congrArg Value.bool hb8) ?_
                  refine o_off rfl rfl ?_
                  refine o_pick_t (v := (.bool true)) rfl rfl ?_
                  refine o_neqb (r := (!(r7_) == true)) Try.underlying4 rfl rfl rfl ?_
                  refine wpList_nil ?_
                  refine then_n ?_
                  refine if_nb rfl (fun ht11 => ?_) (fun ht11 => ?_)
                  · replace hP := hP.2 (by simp [ht11])
                    refine seq_reg ?_
                    refine o_assign (v := (.bool false)) rfl ?_
                    refine wpList_nil ?_
                    refine then_n ?_
                    refine wp_ret ?_
                    refine blk_r ?_
                    refine then_r ?_
                    refine then_r ?_
                    refine blk_r ?_
                    refine blk_r ?_
                    refine then_r ?_
                    refine then_r ?_
                    refine blk_r ?_
                    refine then_r ?_
                    refine ret1 rfl (show ev _ _ _ = (.bool false) from rfl) ?_
                    exact ⟨false, rfl, hS28.done.forget, hP⟩
                  · replace hP := hP.1 ht11
                    refine wp_skip ?_
                    refine blk_n ?_
                    refine then_n ?_
                    refine one_reg ?_
                    refine o_move (v := (.int .i64 ((k_2 : Nat) : Int))) rfl ?_
                    refine o_add (r := ((k_2 + 1 : Nat) : Int)) rfl rfl (nw (by omega) (by omega) (by have := hlen2; omega)) ?_
                    refine o_assign (v := (.int .i64 ((k_2 + 1 : Nat) : Int))) rfl ?_
                    refine wpList_nil ?_
                    refine then_n ?_
                    exact ⟨k_2 + 1, _, rfl, hP, σ4, _, (upd_in rfl (upd_in rfl (upd_in rfl (upd_in rfl (upd_in rfl (upd_in rfl rfl)))))), hS28, hsub3⟩
                · replace hP := hP.2 (by simp [hb8])
                  refine o_move (v := (.bool false)) (congrArg Value.bool hb8) ?_
                  refine o_on rfl rfl ?_
                  refine o_move (v := (.bool (r13_))) rfl ?_
                  refine o_pick_f (v := (.bool (r13_))) rfl rfl ?_
                  refine o_neqb (r := (!(r7_) == (r13_))) Try.underlying4 rfl rfl rfl ?_
                  refine wpList_nil ?_
                  refine then_n ?_
                  refine if_nb rfl (fun ht12 => ?_) (fun ht12 => ?_)
                  · replace hP := hP.2 (by simp [ht12])
                    refine seq_reg ?_
                    refine o_assign (v := (.bool false)) rfl ?_
                    refine wpList_nil ?_
                    refine then_n ?_
                    refine wp_ret ?_
                    refine blk_r ?_
                    refine then_r ?_
                    refine then_r ?_
                    refine blk_r ?_
                    refine blk_r ?_
                    refine then_r ?_
                    refine then_r ?_
                    refine blk_r ?_
                    refine then_r ?_
                    refine ret1 rfl (show ev _ _ _ = (.bool false) from rfl) ?_
                    exact ⟨false, rfl, hS28.done.forget, hP⟩
                  · replace hP := hP.1 ht12
                    refine wp_skip ?_
                    refine blk_n ?_
                    refine then_n ?_
                    refine one_reg ?_
                    refine o_move (v := (.int .i64 ((k_2 : Nat) : Int))) rfl ?_
                    refine o_add (r := ((k_2 + 1 : Nat) : Int)) rfl rfl (nw (by omega) (by omega) (by have := hlen2; omega)) ?_
                    refine o_assign (v := (.int .i64 ((k_2 + 1 : Nat) : Int))) rfl ?_
                    refine wpList_nil ?_
                    refine then_n ?_
                    exact ⟨k_2 + 1, _, rfl, hP, σ4, _, (upd_in rfl (upd_in rfl (upd_in rfl (upd_in rfl (upd_in rfl (upd_in rfl rfl)))))), hS28, hsub3⟩
              · replace hP := hP.2 (by simp [hb7])
                refine d_take (i := 27) (v := (.bool false)) (l' := #[true, true, true, true, true, true, true, true, true, true, true, true, true, true, true, true, true, true, true, true, true, true, true, true, true, true, true, true, false, false, false, false, false, false, false, false, false, false, false]) rfl (by kernel_rfl) (by kernel_rfl) (by kernel_rfl) rfl rfl (fun _ _ _ h => h) hS27 (fun w hJ K hK => ?_) ?_
                · refine o_on rfl rfl ?_
                  refine o_move (v := (.bool false)) (congrArg Value.bool hb7) ?_
                  exact ⟨rfl, hK⟩
                refine d_take (i := 28) (v := undef) (l' := #[true, true, true, true, true, true, true, true, true, true, true, true, true, true, true, true, true, true, true, true, true, true, true, true, true, true, true, true, true, false, false, false, false, false, false, false, false, false, false]) rfl (by kernel_rfl) (by kernel_rfl) (by kernel_rfl) rfl rfl (fun _ _ _ h => h) hS27 (fun w hJ K hK => ?_) ?_
                · refine o_off rfl rfl ?_
                  exact ⟨rfl, hK⟩
                refine d_take (i := 29) (v := undef) (l' := #[true, true, true, true, true, true, true, true, true, true, true, true, true, true, true, true, true, true, true, true, true, true, true, true, true, true, true, true, true, true, false, false, false, false, false, false, false, false, false]) rfl (by kernel_rfl) (by kernel_rfl) (by kernel_rfl) rfl rfl (fun _ _ _ h => h) hS27 (fun w hJ K hK => ?_) ?_
                · refine o_off rfl rfl ?_
                  exact ⟨rfl, hK⟩
                refine d_take (i := 30) (v := undef) (l' := #[true, true, true, true, true, true, true, true, true, true, true, true, true, true, true, true, true, true, true, true, true, true, true, true, true, true, true, true, true, true, true, false, false, false, false, false, false, false, false]) rfl (by kernel_rfl) (by kernel_rfl) (by kernel_rfl) rfl rfl (fun _ _ _ h => h) hS27 (fun w hJ K hK => ?_) ?_
                · refine o_off rfl rfl ?_
                  exact ⟨rfl, hK⟩
                refine d_take (i := 31) (v := undef) (l' := #[true, true, true, true, true, true, true, true, true, true, true, true, true, true, true, true, true, true, true, true, true, true, true, true, true, true, true, true, true, true, true, true, false, false, false, false, false, false, false]) rfl (by kernel_rfl) (by kernel_rfl) (by kernel_rfl) rfl rfl (fun _ _ _ h => h) hS27 (fun w hJ K hK => ?_) ?_
                · refine o_off rfl rfl ?_
                  exact ⟨rfl, hK⟩
                refine d_take (i := 32) (v := undef) (l' := #[true, true, true, true, true, true, true, true, true, true, true, true, true, true, true, true, true, true, true, true, true, true, true, true, true, true, true, true, true, true, true, true, true, false, false, false, false, false, false]) rfl (by kernel_rfl) (by kernel_rfl) (by kernel_rfl) rfl rfl (fun _ _ _ h => h) hS27 (fun w hJ K hK => ?_) ?_
                · refine o_off rfl rfl ?_
                  exact ⟨rfl, hK⟩
                refine d_take (i := 33) (v := undef) (l' := #[true, true, true, true, true, true, true, true, true, true, true, true, true, true, true, true, true, true, true, true, true, true, true, true, true, true, true, true, true, true, true, true, true, true, false, false, false, false, false]) rfl (by kernel_rfl) (by kernel_rfl) (by kernel_rfl) rfl rfl (fun _ _ _ h => h) hS27 (fun w hJ K hK => ?_) ?_
                · refine o_off rfl rfl ?_
                  exact ⟨rfl, hK⟩
                refine d_take (i := 34) (v := undef) (l' := #[true, true, true, true, true, true, true, true, true, true, true, true, true, true, true, true, true, true, true, true, true, true, true, true, true, true, true, true, true, true, true, true, true, true, true, false, false, false, false]) rfl (by kernel_rfl) (by kernel_rfl) (by kernel_rfl) rfl rfl (fun _ _ _ h => h) hS27 (fun w hJ K hK => ?_) ?_
                · refine o_off rfl rfl ?_
                  exact ⟨rfl, hK⟩
                refine d_take (i := 35) (v := undef) (l' := #[true, true, true, true, true, true, true, true, true, true, true, true, true, true, true, true, true, true, true, true, true, true, true, true, true, true, true, true, true, true, true, true, true, true, true, true, false, false, false]) rfl (by kernel_rfl) (by kernel_rfl) (by kernel_rfl) rfl rfl (fun _ _ _ h => h) hS27 (fun w hJ K hK => ?_) ?_
                · refine o_off rfl rfl ?_
                  exact ⟨rfl, hK⟩
                refine d_take (i := 36) (v := (.bool false)) (l' := #[true, true, true, true, true, true, true, true, true, true, true, true, true, true, true, true, true, true, true, true, true, true, true, true, true, true, true, true, true, true, true, true, true, true, true, true, true, false, false]) rfl (by kernel_rfl) (by kernel_rfl) (by kernel_rfl) rfl rfl (fun _ _ _ h => h) hS27 (fun w hJ K hK => ?_) ?_
                · refine o_on rfl rfl ?_
                  refine o_pick_f (v := (.bool false)) rfl rfl ?_
                  exact ⟨rfl, hK⟩
                refine d_take (i := 37) (v := (.bool false)) (l' := #[true, true, true, true, true, true, true, true, true, true, true, true, true, true, true, true, true, true, true, true, true, true, true, true, true, true, true, true, true, true, true, true, true, true, true, true, true, true, false]) rfl (by kernel_rfl) (by kernel_rfl) (by kernel_rfl) rfl rfl (fun _ _ _ h => h) hS27 (fun w hJ K hK => ?_) ?_
                · refine o_pick_f (v := (.bool false)) rfl rfl ?_
                  exact ⟨rfl, hK⟩
                refine d_take (i := 38) (v := (.bool false)) (l' := #[true, true, true, true, true, true, true, true, true, true, true, true, true, true, true, true, true, true, true, true, true, true, true, true, true, true, true, true, true, true, true, true, true, true, true, true, true, true, true]) rfl (by kernel_rfl) (by kernel_rfl) (by kernel_rfl) rfl rfl (fun _ _ _ h => h) hS27 (fun w hJ K hK => ?_) ?_
                · refine o_assign (v := (.bool false)) rfl ?_
                  exact ⟨rfl, hK⟩
                refine d_done (by kernel_rfl) ?_
                refine then_n ?_
                refine seq_reg ?_
                refine o_move (v := (.bool (r7_))) rfl ?_
                refine o_move (v := (.bool (r6_))) rfl ?_
                rcases Bool.eq_false_or_eq_true (r6_) with hb9 | hb9
                · replace hP := hP.1 hb9
                  refine o_move (v := (.bool true)) (congrArg Value.bool hb9) ?_
                  refine o_off rfl rfl ?_
                  refine o_pick_t (v := (.bool true)) rfl rfl ?_
                  refine o_neqb (r := (!(r7_) == true)) Try.underlying4 rfl rfl rfl ?_
                  refine wpList_nil ?_
                  refine then_n ?_
                  refine if_nb rfl (fun ht13 => ?_) (fun ht13 => ?_)
                  · replace hP := hP.2 (by simp [ht13])
                    refine seq_reg ?_
                    refine o_assign (v := (.bool false)) rfl ?_
                    refine wpList_nil ?_
                    refine then_n ?_
                    refine wp_ret ?_
                    refine blk_r ?_
                    refine then_r ?_
                    refine then_r ?_
                    refine blk_r ?_
                    refine blk_r ?_
                    refine then_r ?_
                    refine then_r ?_
                    refine blk_r ?_
                    refine then_r ?_
                    refine ret1 rfl (show ev _ _ _ = (.bool false) from rfl) ?_
                    exact ⟨false, rfl, hS27.done.forget, hP⟩
                  · replace hP := hP.1 ht13
                    refine wp_skip ?_
                    refine blk_n ?_
                    refine then_n ?_
                    refine one_reg ?_
                    refine o_move (v := (.int .i64 ((k_2 : Nat) : Int))) rfl ?_
                    refine o_add (r := ((k_2 + 1 : Nat) : Int)) rfl rfl (nw (by omega) (by omega) (by have := hlen2; omega)) ?_
                    refine o_assign (v := (.int .i64 ((k_2 + 1 : Nat) : Int))) rfl ?_
                    refine wpList_nil ?_
                    refine then_n ?_
                    exact ⟨k_2 + 1, _, rfl, hP, σ4, _, (upd_in rfl (upd_in rfl (upd_in rfl (upd_in rfl (upd_in rfl (upd_in rfl rfl)))))), hS27, hsub3⟩
                · replace hP := hP.2 (by simp [hb9])
                  refine o_move (v := (.bool false)) (congrArg Value.bool hb9) ?_
                  refine o_on rfl rfl ?_
                  refine o_move (v := (.bool false)) rfl ?_
                  refine o_pick_f (v := (.bool false)) rfl rfl ?_
                  refine o_neqb (r := (!(r7_) == false)) Try.underlying4 rfl rfl rfl ?_
                  refine wpList_nil ?_
                  refine then_n ?_
                  refine if_nb rfl (fun ht14 => ?_) (fun ht14 => ?_)
                  · replace hP := hP.2 (by simp [ht14])
                    refine seq_reg ?_
                    refine o_assign (v := (.bool false)) rfl ?_
                    refine wpList_nil ?_
                    refine then_n ?_
                    refine wp_ret ?_
                    refine blk_r ?_
                    refine then_r ?_
                    refine then_r ?_
                    refine blk_r ?_
                    refine blk_r ?_
                    refine then_r ?_
                    refine then_r ?_
                    refine blk_r ?_
                    refine then_r ?_
                    refine ret1 rfl (show ev _ _ _ = (.bool false) from rfl) ?_
                    exact ⟨false, rfl, hS27.done.forget, hP⟩
                  · replace hP := hP.1 ht14
                    refine wp_skip ?_
                    refine blk_n ?_
                    refine then_n ?_
                    refine one_reg ?_
                    refine o_move (v := (.int .i64 ((k_2 : Nat) : Int))) rfl ?_
                    refine o_add (r := ((k_2 + 1 : Nat) : Int)) rfl rfl (nw (by omega) (by omega) (by have := hlen2; omega)) ?_
                    refine o_assign (v := (.int .i64 ((k_2 + 1 : Nat) : Int))) rfl ?_
                    refine wpList_nil ?_
                    refine then_n ?_
                    exact ⟨k_2 + 1, _, rfl, hP, σ4, _, (upd_in rfl (upd_in rfl (upd_in rfl (upd_in rfl (upd_in rfl (upd_in rfl rfl)))))), hS27, hsub3⟩
          · replace hP := hP.2 ht4
            refine wp_exit ?_
            refine then_e ?_
            refine then_e ?_
            refine blk_hit ?_
            refine blk_n ?_
            refine then_n ?_
            refine one_reg ?_
            refine o_move (v := (.int .i64 ((i_2 : Nat) : Int))) rfl ?_
            refine o_add (r := ((i_2 + 1 : Nat) : Int)) rfl rfl (nw (by omega) (by omega) (by have := hlen2; omega)) ?_
            refine o_assign (v := (.int .i64 ((i_2 + 1 : Nat) : Int))) rfl ?_
            refine wpList_nil ?_
            refine then_n ?_
            exact ⟨i_2 + 1, _, rfl, hP, σ4, _, (upd_in rfl (upd_in rfl (upd_in rfl (upd_in rfl (upd_in rfl rfl))))), hS17, (Sub.trans hsub2 hsub3)⟩
        · replace hP := hP.2 ht3
          refine wp_exit ?_
          refine then_e ?_
          refine then_e ?_
          refine blk_hit ?_
          refine then_n ?_
          refine seq_reg ?_
          refine o_assign (v := (.bool true)) rfl ?_
          refine wpList_nil ?_
          refine then_n ?_
          refine wp_ret ?_
          refine ret1 rfl (show ev _ _ _ = (.bool true) from rfl) ?_
          exact ⟨true, rfl, hS16.done.forget, hP⟩

end Go.Proofs.Ytehmnkholidanaa
