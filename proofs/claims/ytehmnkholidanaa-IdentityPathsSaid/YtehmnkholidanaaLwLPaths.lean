/- A call does what its plain meaning says, and leaves the memory that was there as it was: law26_IdentityPaths. -/
import Derived.Test.YtehmnkholidanaaRows
import Derived.Test.YtehmnkholidanaaFlLift
import Derived.Test.YtehmnkholidanaaPuLPaths
import Derived.KernelRfl
import Derived.Test.YtehmnkholidanaaLwB
namespace Go.Proofs.Ytehmnkholidanaa
open Go Go.RowKit Go.Fl
set_option maxHeartbeats 2000000 in
theorem w_law26_IdentityPaths {σ : Hv} {w : World} (l_p : (List UInt8)) (a_p : Int) (b_p : Int) (v1 : Value) {K : Bool → Prop} (hV : View σ w) (hr1 : RSl 1 RU8 σ v1 l_p) (hP : P_law26_IdentityPaths l_p a_p b_p K) :
    Calls Try.prog 4 #[v1, (.int .u8 a_p), (.int .u8 b_p)] w (fun e w1 => ∃ (r1 : Bool), e = .returned (.bool (r1)) ∧ Grow [] σ w σ w1 ∧ K r1) := by
  unfold P_law26_IdentityPaths at hP
  obtain ⟨a1, cap1, rfl⟩ := hr1.shape
  refine enter Try.func4 rfl rfl rfl ?_
  have hS := St.start hV
  refine seq_reg ?_
  refine o_assign (v := (.bool false)) rfl ?_
  refine wpList_nil ?_
  refine then_n ?_
  refine wp_seq ?_
  refine seq_reg ?_
  obtain ⟨Y1, hK1, hc1⟩ := hP
  refine o_call (args := []) rfl Try.call11 (Calls.mono (w_law26_awake hS.view hc1) ?_)
  rintro _ w1 ⟨r1_, rfl, hg1, hY1⟩
  refine ⟨_, rfl, ?_⟩
  have hS1 := hS.grow hg1
  replace hP := hK1 r1_ hY1
  refine o_not (r := (!r1_)) rfl rfl ?_
  refine wpList_nil ?_
  refine then_n ?_
  refine if_nb rfl (fun ht1 => ?_) (fun ht1 => ?_)
  · replace hP := hP.2 (by simp [ht1])
    refine seq_reg ?_
    refine o_assign (v := (.bool false)) rfl ?_
    refine wpList_nil ?_
    refine then_n ?_
    refine wp_ret ?_
    refine then_r ?_
    refine ret1 rfl (show ev _ _ _ = (.bool false) from rfl) ?_
    exact ⟨false, rfl, hS1.done.forget, hP⟩
  · replace hP := hP.1 ht1
    refine wp_skip ?_
    refine then_n ?_
    refine wp_seq ?_
    refine seq_reg ?_
    refine o_move (v := (.slice a1 l_p.length cap1)) rfl ?_
    refine o_len_slice rfl Try.underlying22 ?_
    have hlen1 := RSl.len63 hr1
    replace hP := hP hlen1
    refine o_gtr (r := (decide ((60 : Int) < ((l_p.length : Nat) : Int)))) rfl rfl rfl ?_
    refine wpList_nil ?_
    refine then_n ?_
    refine if_d ((60 : Int) < ((l_p.length : Nat) : Int)) rfl (fun ht2 => ?_) (fun ht2 => ?_)
    · replace hP := hP.1 ht2
      refine seq_reg ?_
      refine o_assign (v := (.bool true)) rfl ?_
      refine wpList_nil ?_
      refine then_n ?_
      refine wp_ret ?_
      refine then_r ?_
      refine ret1 rfl (show ev _ _ _ = (.bool true) from rfl) ?_
      exact ⟨true, rfl, hS1.done.forget, hP⟩
    · replace hP := hP.2 ht2
      refine wp_skip ?_
      refine then_n ?_
      refine seq_reg ?_
      refine o_move (v := (.slice a1 l_p.length cap1)) rfl ?_
      obtain ⟨Y2, hK2, hc2⟩ := hP
      refine o_call (args := [(.slice a1 l_p.length cap1), (.bool true)]) rfl Try.call12 (Calls.mono (w_data_Links l_p true (.slice a1 l_p.length cap1) hS1.view hr1 hc2) ?_)
      rintro _ w2 ⟨r2_, v2, σ1, rfl, hg2, hr2, hY2⟩
      refine ⟨_, rfl, ?_⟩
      have hS2 := hS1.grow hg2
      replace hP := hK2 r2_ hY2
      obtain ⟨a2, cap2, rfl⟩ := hr2.shape
      refine o_assign (v := (.slice a2 r2_.length cap2)) rfl ?_
      refine wpList_nil ?_
      refine then_n ?_
      refine seq_reg ?_
      refine o_move (v := (.int .u8 a_p)) rfl ?_
      obtain ⟨hi1, hP⟩ := hP
      refine o_conv (r := a_p) rfl Try.underlying5 Try.underlying3 (nwi rfl hi1) ?_
      obtain ⟨Y3, hK3, hc3⟩ := hP
      refine o_call (args := [(.int .i64 a_p)]) rfl Try.call13 (Calls.mono (w_data_Id a_p hS2.view hc3) ?_)
      rintro _ w3 ⟨r3_, rfl, hg3, hY3⟩
      refine ⟨_, rfl, ?_⟩
      have hS3 := hS2.grow hg3
      replace hP := hK3 r3_ hY3
      refine o_move (v := (.int .u8 b_p)) rfl ?_
      obtain ⟨hi2, hP⟩ := hP
      refine o_conv (r := b_p) rfl Try.underlying5 Try.underlying3 (nwi rfl hi2) ?_
      obtain ⟨Y4, hK4, hc4⟩ := hP
      refine o_call (args := [(.int .i64 b_p)]) rfl Try.call13 (Calls.mono (w_data_Id b_p hS3.view hc4) ?_)
      rintro _ w4 ⟨r4_, rfl, hg4, hY4⟩
      refine ⟨_, rfl, ?_⟩
      have hS4 := hS3.grow hg4
      replace hP := hK4 r4_ hY4
      refine o_assign (v := (.string r3_)) rfl ?_
      refine o_assign (v := (.string r4_)) rfl ?_
      refine wpList_nil ?_
      refine then_n ?_
      refine seq_reg ?_
      refine o_move (v := (.slice a2 r2_.length cap2)) rfl ?_
      refine o_move (v := (.string r3_)) rfl ?_
      refine o_move (v := (.string r4_)) rfl ?_
      obtain ⟨Y5, hK5, hc5⟩ := hP
      refine o_call (args := [(.slice a2 r2_.length cap2), (.string r3_), (.string r4_)]) rfl Try.call16 (Calls.mono (w_identity_Path r2_ r3_ r4_ (.slice a2 r2_.length cap2) hS4.view hr2 hc5) ?_)
      rintro _ w5 ⟨r5_, r6_, v3, rfl, hg5, hl1, ho1, hY5⟩
      refine ⟨_, rfl, ?_⟩
      have hS5 := hS4.growAdd hg5 (o := vec v3 28 3 r5_.length ((r5_).flatMap encLk)) ho1
      replace hP := hK5 r5_ r6_ hY5
      refine o_move (v := (.tuple #[v3, (.bool (r6_))])) rfl ?_
      refine o_extract (v := v3) rfl rfl ?_
      refine o_extract (v := (.bool (r6_))) rfl rfl ?_
      refine o_assign (v := v3) rfl ?_
      refine o_assign (v := (.bool (r6_))) rfl ?_
      refine wpList_nil ?_
      refine then_n ?_
      refine wp_seq ?_
      refine seq_reg ?_
      refine o_move (v := (.bool (r6_))) rfl ?_
      refine o_move (v := (.slice a2 r2_.length cap2)) rfl ?_
      refine o_move (v := (.string r3_)) rfl ?_
      refine o_move (v := (.string r4_)) rfl ?_
      obtain ⟨Y6, hK6, hc6⟩ := hP
      refine o_call (args := [(.slice a2 r2_.length cap2), (.string r3_), (.string r4_)]) rfl Try.call15 (Calls.mono (w_identity_Same r2_ r3_ r4_ (.slice a2 r2_.length cap2) hS5.view hr2 hc6) ?_)
      rintro _ w6 ⟨r7_, rfl, hg6, hY6⟩
      refine ⟨_, rfl, ?_⟩
      have hS6 := hS5.grow hg6
      replace hP := hK6 r7_ hY6
      refine o_neqb (r := (!(r6_) == (r7_))) Try.underlying4 rfl rfl rfl ?_
      refine wpList_nil ?_
      refine then_n ?_
      refine if_nb rfl (fun ht3 => ?_) (fun ht3 => ?_)
      · replace hP := hP.2 (by simp [ht3])
        refine seq_reg ?_
        refine o_assign (v := (.bool false)) rfl ?_
        refine wpList_nil ?_
        refine then_n ?_
        refine wp_ret ?_
        refine then_r ?_
        refine ret1 rfl (show ev _ _ _ = (.bool false) from rfl) ?_
        exact ⟨false, rfl, hS6.done.forget, hP⟩
      · replace hP := hP.1 ht3
        refine wp_skip ?_
        refine then_n ?_
        refine wp_seq ?_
        refine seq_reg ?_
        refine o_move (v := (.bool (r6_))) rfl ?_
        refine o_not (r := (!r6_)) rfl rfl ?_
        refine wpList_nil ?_
        refine then_n ?_
        refine if_nb rfl (fun ht4 => ?_) (fun ht4 => ?_)
        · replace hP := hP.2 (by simp [ht4])
          refine seq_reg ?_
          refine o_move (v := v3) rfl ?_
          refine o_len_vec hS6 rfl (i := 0) rfl Try.underlying24 ?_
          have hlen2 : r5_.length ≤ 9223372036854775807 := by have := hl1; unfold Sml at this; omega
          replace hP := hP hlen2
          refine o_eql (r := (decide (((r5_.length : Nat) : Int) = (0 : Int)))) rfl rfl rfl ?_
          refine o_assign (v := (.bool (decide (((r5_.length : Nat) : Int) = (0 : Int))))) rfl ?_
          refine wpList_nil ?_
          refine then_n ?_
          refine wp_ret ?_
          refine then_r ?_
          refine ret1 rfl (show ev _ _ _ = (.bool (decide (((r5_.length : Nat) : Int) = (0 : Int)))) from rfl) ?_
          exact ⟨(decide (((r5_.length : Nat) : Int) = (0 : Int))), rfl, hS6.done.forget, hP⟩
        · replace hP := hP.1 ht4
          refine wp_skip ?_
          refine then_n ?_
          refine seq_reg ?_
          refine o_move (v := (.string r3_)) rfl ?_
          refine o_bslice (cs := [(.string r3_)]) (e := 9) hS6 (fun _ => by kernel_rfl) ?_
          intro b1 w7 hS7
          refine o_assign (v := (.slice (some ⟨b1, 0, none⟩) 1 1)) rfl ?_
          refine wpList_nil ?_
          refine then_n ?_
          refine wp_seq ?_
          refine seq_reg ?_
          refine o_assign (v := (.int .i64 (0 : Int))) rfl ?_
          refine wpList_nil ?_
          refine then_n ?_
          refine wp_block ?_
          have hS8 := hS7.asVec (i := 0) (ms' := [vec (.slice (some ⟨b1, 0, none⟩) 1 1) 9 1 1 (([r3_]).flatMap encTx), vec v3 28 3 r5_.length ((r5_).flatMap encLk)]) (size := 1) rfl rfl (by unfold maxLen; omega) rfl
          refine lp_loop2 (fun at_2 i_2 f z => ∃ (v5 : Value) (σ2 : Hv) (g : Fr), f = (upd (upd (upd (upd (upd g 8 (.string r3_)) 9 (.string r4_)) 10 v3) 12 v5) 13 (.int .i64 ((i_2 : Nat) : Int))) ∧ St ⟨w, σ, []⟩ z σ2 [vec v5 9 1 at_2.length ((at_2).flatMap encTx), vec v3 28 3 r5_.length ((r5_).flatMap encLk)] ∧ Sub σ1 σ2 ∧ v5.oneCell' = true ∧ Sml at_2.length) hP ⟨(.slice (some ⟨b1, 0, none⟩) 1 1), σ1, _, (upd_in rfl (upd_in rfl (upd_in rfl (upd_in rfl (upd_in rfl rfl))))), hS8, (Sub.refl _), rfl, (by simp [Sml])⟩ ?_
          clear hP
          rintro at_2 i_2 Y7 hP f w8 ⟨v5, σ2, g, rfl, hS9, hsub1, ho3, hl3⟩
          refine wp_seq ?_
          refine seq_reg ?_
          refine o_move (v := (.int .i64 ((i_2 : Nat) : Int))) rfl ?_
          refine o_move (v := v3) rfl ?_
          refine o_len_vec hS9 rfl (i := 1) rfl Try.underlying24 ?_
          have hlen3 : r5_.length ≤ 9223372036854775807 := by have := hl1; unfold Sml at this; omega
          replace hP := hP hlen3
          refine o_lss (r := (decide (((i_2 : Nat) : Int) < ((r5_.length : Nat) : Int)))) rfl rfl rfl ?_
          refine wpList_nil ?_
          refine then_n ?_
          refine if_d (((i_2 : Nat) : Int) < ((r5_.length : Nat) : Int)) rfl (fun ht5 => ?_) (fun ht5 => ?_)
          · replace hP := hP.1 ht5
            refine wp_skip ?_
            refine then_n ?_
            refine wp_seq ?_
            refine wp_block ?_
            refine seq_reg ?_
            refine o_move (v := v5) rfl ?_
            refine o_move (v := v5) rfl ?_
            refine o_len_vec hS9 rfl (i := 0) rfl Try.underlying29 ?_
            have hlen4 : at_2.length ≤ 9223372036854775807 := by have := hl3; unfold Sml at this; omega
            replace hP := hP hlen4
            obtain ⟨hi3, hP⟩ := hP
            refine o_sub (r := (((at_2.length : Nat) : Int) - (1 : Int))) rfl rfl (nwi rfl hi3) ?_
            obtain ⟨j1_, hj1, hP⟩ := hP
            obtain ⟨x1_, hx1, hP⟩ := hP
            obtain ⟨g1, cp1, hv1⟩ := vec_posv (hS9.get (i := 0) rfl) (lt_of_getq hx1)
            refine o_iaddr_slice (k := j1_) (a' := ⟨g1, j1_ * 1, none⟩) hv1 rfl hj1 (lt_of_getq hx1) Try.underlying29 Try.sizeOf9 (by simp [addr_lit]) ?_
            refine o_load (v := (.string x1_)) rfl Try.isAgg9 (vec_cellv encTx_len (j := 0) hv1 (hS9.get (i := 0) rfl) hx1 rfl) ?_
            refine o_assign (v := (.string x1_)) rfl ?_
            refine wpList_nil ?_
            refine then_n ?_
            refine seq_reg ?_
            refine o_move (v := v3) rfl ?_
            refine o_move (v := (.int .i64 ((i_2 : Nat) : Int))) rfl ?_
            obtain ⟨x2_, hx2⟩ := getq (l := r5_) (k := i_2) (by have := ht5; omega)
            replace hP := hP x2_ hx2
            obtain ⟨g2, cp2, hv2⟩ := vec_posv (hS9.get (i := 1) rfl) (lt_of_getq hx2)
            refine o_iaddr_slice (k := i_2) (a' := ⟨g2, i_2 * 3, none⟩) hv2 rfl rfl (lt_of_getq hx2) Try.underlying24 Try.sizeOf28 (by simp [addr_lit]) ?_
            refine o_faddr (a' := ⟨g2, i_2 * 3, none⟩) rfl Try.underlying28 rfl Try.sizeOf9 rfl ?_
            refine o_load (v := (.string x2_.1)) rfl Try.isAgg9 (vec_cellv encLk_len (j := 0) hv2 (hS9.get (i := 1) rfl) hx2 rfl) ?_
            refine o_assign (v := (.string x2_.1)) rfl ?_
            refine wpList_nil ?_
            refine then_n ?_
            obtain ⟨Y8, hK7, hP⟩ := hP
            refine cut (fun f z => ∃ (next_1 : ByteArray) (σ3 : Hv) (g : Fr), Y8 next_1 ∧ f = (upd (upd (upd (upd (upd (upd (upd g 8 (.string r3_)) 9 (.string r4_)) 10 v3) 12 v5) 13 (.int .i64 ((i_2 : Nat) : Int))) 14 (.string x1_)) 15 (.string next_1)) ∧ St ⟨w, σ, []⟩ z σ3 [vec v5 9 1 at_2.length ((at_2).flatMap encTx), vec v3 28 3 r5_.length ((r5_).flatMap encLk)] ∧ Sub σ2 σ3) ?_ ?_
            · refine seq_reg ?_
              refine o_move (v := v3) rfl ?_
              refine o_move (v := (.int .i64 ((i_2 : Nat) : Int))) rfl ?_
              obtain ⟨g3, cp3, hv3⟩ := vec_posv (hS9.get (i := 1) rfl) (lt_of_getq hx2)
              refine o_iaddr_slice (k := i_2) (a' := ⟨g3, i_2 * 3, none⟩) hv3 rfl rfl (lt_of_getq hx2) Try.underlying24 Try.sizeOf28 (by simp [addr_lit]) ?_
              refine o_faddr (a' := ⟨g3, i_2 * 3, none⟩) rfl Try.underlying28 rfl Try.sizeOf9 rfl ?_
              refine o_load (v := (.string x2_.1)) rfl Try.isAgg9 (vec_cellv encLk_len (j := 0) hv3 (hS9.get (i := 1) rfl) hx2 rfl) ?_
              refine o_move (v := (.string x1_)) rfl ?_
              refine o_eqls (r := (decide (x2_.1 = x1_))) rfl rfl rfl ?_
              refine wpList_nil ?_
              refine then_n ?_
              refine if_d (x2_.1 = x1_) rfl (fun ht6 => ?_) (fun ht6 => ?_)
              · replace hP := hP.1 ht6
                refine one_reg ?_
                refine o_move (v := v3) rfl ?_
                refine o_move (v := (.int .i64 ((i_2 : Nat) : Int))) rfl ?_
                obtain ⟨g4, cp4, hv4⟩ := vec_posv (hS9.get (i := 1) rfl) (lt_of_getq hx2)
                refine o_iaddr_slice (k := i_2) (a' := ⟨g4, i_2 * 3, none⟩) hv4 rfl rfl (lt_of_getq hx2) Try.underlying24 Try.sizeOf28 (by simp [addr_lit]) ?_
                refine o_faddr (a' := ⟨g4, i_2 * 3 + 1, none⟩) rfl Try.underlying28 rfl Try.sizeOf9 rfl ?_
                refine o_load (v := (.string x2_.2.1)) rfl Try.isAgg9 (vec_cellv encLk_len (j := 1) hv4 (hS9.get (i := 1) rfl) hx2 rfl) ?_
                refine o_assign (v := (.string x2_.2.1)) rfl ?_
                refine wpList_nil ?_
                refine then_n ?_
                exact ⟨_, rfl, x2_.2.1, σ2, _, hP, (upd_in rfl (upd_in rfl (upd_in rfl (upd_in rfl (upd_in rfl (upd_in rfl (upd_in rfl rfl))))))), hS9, (Sub.refl _)⟩
              · replace hP := hP.2 ht6
                refine wp_skip ?_
                refine then_n ?_
                exact ⟨_, rfl, x2_.1, σ2, _, hP, (upd_in rfl (upd_in rfl (upd_in rfl (upd_in rfl (upd_in rfl (upd_in rfl (upd_in rfl rfl))))))), hS9, (Sub.refl _)⟩
            · rintro f w9 ⟨next_1, σ3, g, hY7, rfl, hS10, hsub2⟩
              replace hP := hK7 next_1 hY7
              refine wp_seq ?_
              refine seq_reg ?_
              refine o_move (v := v3) rfl ?_
              refine o_move (v := (.int .i64 ((i_2 : Nat) : Int))) rfl ?_
              obtain ⟨g5, cp5, hv5⟩ := vec_posv (hS10.get (i := 1) rfl) (lt_of_getq hx2)
              refine o_iaddr_slice (k := i_2) (a' := ⟨g5, i_2 * 3, none⟩) hv5 rfl rfl (lt_of_getq hx2) Try.underlying24 Try.sizeOf28 (by simp [addr_lit]) ?_
              refine o_faddr (a' := ⟨g5, i_2 * 3, none⟩) rfl Try.underlying28 rfl Try.sizeOf9 rfl ?_
              refine o_load (v := (.string x2_.1)) rfl Try.isAgg9 (vec_cellv encLk_len (j := 0) hv5 (hS10.get (i := 1) rfl) hx2 rfl) ?_
              refine o_move (v := (.string x1_)) rfl ?_
              refine o_neqs (r := (!decide (x2_.1 = x1_))) rfl rfl rfl ?_
              by_cases hb1 : x2_.1 = x1_
              · replace hP := hP.1 hb1
                refine o_move (v := (.bool false)) (congrArg Value.bool (congrArg Bool.not (decide_eq_true hb1))) ?_
                refine o_off rfl rfl ?_
                refine o_off rfl rfl ?_
                refine o_off rfl rfl ?_
                refine o_off rfl rfl ?_
                refine o_off rfl rfl ?_
                refine o_off rfl rfl ?_
                refine o_off rfl rfl ?_
                refine o_pick_f (v := (.bool false)) rfl rfl ?_
                refine o_move (v := (.bool false)) rfl ?_
                refine o_on rfl rfl ?_
                refine o_move (v := v5) rfl ?_
                refine o_on rfl rfl ?_
                refine o_move (v := (.string next_1)) rfl ?_
                refine o_on rfl rfl ?_
                obtain ⟨σ4, hS11, hsub3, hr4⟩ := hS10.peek (i := 0) rfl (notin0 _) encTx_len hl3
                obtain ⟨Y9, hK8, hc7⟩ := hP
                refine o_call (args := [v5, (.string next_1)]) rfl Try.call17 (Calls.mono (w_ref1_Has at_2 next_1 v5 hS11.view hr4 hc7) ?_)
                rintro _ w10 ⟨r8_, rfl, hg7, hY8⟩
                refine ⟨_, rfl, ?_⟩
                have hg7b := hg7.back hsub3
                have hS12 := hS10.grow hg7b
                replace hP := hK8 r8_ hY8
                refine o_pick_f (v := (.bool (r8_))) rfl rfl ?_
                refine wpList_nil ?_
                refine then_n ?_
                refine if_b rfl (fun ht7 => ?_) (fun ht7 => ?_)
                · replace hP := hP.1 ht7
                  refine seq_reg ?_
                  refine o_assign (v := (.bool false)) rfl ?_
                  refine wpList_nil ?_
                  refine then_n ?_
                  refine wp_ret ?_
                  refine then_r ?_
                  refine blk_r ?_
                  refine then_r ?_
                  refine then_r ?_
                  refine blk_r ?_
                  refine then_r ?_
                  refine ret1 rfl (show ev _ _ _ = (.bool false) from rfl) ?_
                  exact ⟨false, rfl, hS12.done.forget, hP⟩
                · replace hP := hP.2 (by simp [ht7])
                  refine wp_skip ?_
                  refine then_n ?_
                  refine one_reg ?_
                  refine o_move (v := v5) rfl ?_
                  refine o_move (v := (.string next_1)) rfl ?_
                  refine o_bslice (cs := [(.string next_1)]) (e := 9) hS12 (fun _ => by kernel_rfl) ?_
                  intro b2 w11 hS13
                  obtain ⟨hsm1, hP⟩ := hP
                  refine o_app (Ms := fun v6 => [blk b2 9 [(.string next_1)], vec v6 9 1 ((at_2 ++ [next_1]).length) ((at_2 ++ [next_1]).flatMap encTx), vec v3 28 3 r5_.length ((r5_).flatMap encLk)]) (k' := (at_2 ++ [next_1]).length) (xs' := (at_2 ++ [next_1]).flatMap encTx) Try.underlying29 Try.type9 rfl rfl (bytes := 16) rfl rfl (Nat.succ_pos _) hS13 rfl (q := 1) rfl rfl rfl (blk_row (hS13.get (i := 0) rfl)) (ones rfl) hsm1 (by omega) (by first | rfl | simp) (by simp [encTx]) (fun _ => rfl) ?_
                  intro v6 w12 ho4 hS14
                  have hS15 := hS14.drop 0 (ms' := [vec v6 9 1 ((at_2 ++ [next_1]).length) ((at_2 ++ [next_1]).flatMap encTx), vec v3 28 3 r5_.length ((r5_).flatMap encLk)]) rfl
                  refine o_assign (v := v6) rfl ?_
                  refine wpList_nil ?_
                  refine blk_n ?_
                  refine then_n ?_
                  refine one_reg ?_
                  refine o_move (v := (.int .i64 ((i_2 : Nat) : Int))) rfl ?_
                  refine o_add (r := ((i_2 + 1 : Nat) : Int)) rfl rfl (nw (by omega) (by omega) (by have := hlen3; omega)) ?_
                  refine o_assign (v := (.int .i64 ((i_2 + 1 : Nat) : Int))) rfl ?_
                  refine wpList_nil ?_
                  refine then_n ?_
                  exact ⟨at_2 ++ [next_1], i_2 + 1, _, rfl, hP, v6, σ3, _, (upd_in rfl (upd_in rfl (upd_in rfl (upd_in rfl (upd_in rfl rfl))))), hS15, (Sub.trans hsub1 hsub2), ho4, hsm1⟩
              · replace hP := hP.2 hb1
                refine o_move (v := (.bool true)) (congrArg Value.bool (congrArg Bool.not (decide_eq_false hb1))) ?_
                refine o_on rfl rfl ?_
                refine o_move (v := v3) rfl ?_
                refine o_on rfl rfl ?_
                refine o_move (v := (.int .i64 ((i_2 : Nat) : Int))) rfl ?_
                refine o_on rfl rfl ?_
                obtain ⟨g6, cp6, hv6⟩ := vec_posv (hS10.get (i := 1) rfl) (lt_of_getq hx2)
                refine o_iaddr_slice (k := i_2) (a' := ⟨g6, i_2 * 3, none⟩) hv6 rfl rfl (lt_of_getq hx2) Try.underlying24 Try.sizeOf28 (by simp [addr_lit]) ?_
                refine o_on rfl rfl ?_
                refine o_faddr (a' := ⟨g6, i_2 * 3 + 1, none⟩) rfl Try.underlying28 rfl Try.sizeOf9 rfl ?_
                refine o_on rfl rfl ?_
                refine o_load (v := (.string x2_.2.1)) rfl Try.isAgg9 (vec_cellv encLk_len (j := 1) hv6 (hS10.get (i := 1) rfl) hx2 rfl) ?_
                refine o_on rfl rfl ?_
                refine o_move (v := (.string x1_)) rfl ?_
                refine o_on rfl rfl ?_
                refine o_neqs (r := (!decide (x2_.2.1 = x1_))) rfl rfl rfl ?_
                refine o_pick_t (v := (.bool (!decide (x2_.2.1 = x1_)))) rfl rfl ?_
                by_cases hb2 : x2_.2.1 = x1_
                · replace hP := hP.1 hb2
                  refine o_move (v := (.bool false)) (congrArg Value.bool (congrArg Bool.not (decide_eq_true hb2))) ?_
                  refine o_on rfl rfl ?_
                  refine o_move (v := v5) rfl ?_
                  refine o_on rfl rfl ?_
                  refine o_move (v := (.string next_1)) rfl ?_
                  refine o_on rfl rfl ?_
                  obtain ⟨σ5, hS16, hsub4, hr5⟩ := hS10.peek (i := 0) rfl (notin0 _) encTx_len hl3
                  obtain ⟨Y10, hK9, hc8⟩ := hP
                  refine o_call (args := [v5, (.string next_1)]) rfl Try.call17 (Calls.mono (w_ref1_Has at_2 next_1 v5 hS16.view hr5 hc8) ?_)
                  rintro _ w13 ⟨r9_, rfl, hg8, hY9⟩
                  refine ⟨_, rfl, ?_⟩
                  have hg8b := hg8.back hsub4
                  have hS17 := hS10.grow hg8b
                  replace hP := hK9 r9_ hY9
                  refine o_pick_f (v := (.bool (r9_))) rfl rfl ?_
                  refine wpList_nil ?_
                  refine then_n ?_
                  refine if_b rfl (fun ht8 => ?_) (fun ht8 => ?_)
                  · replace hP := hP.1 ht8
                    refine seq_reg ?_
                    refine o_assign (v := (.bool false)) rfl ?_
                    refine wpList_nil ?_
                    refine then_n ?_
                    refine wp_ret ?_
                    refine then_r ?_
                    refine blk_r ?_
                    refine then_r ?_
                    refine then_r ?_
                    refine blk_r ?_
                    refine then_r ?_
                    refine ret1 rfl (show ev _ _ _ = (.bool false) from rfl) ?_
                    exact ⟨false, rfl, hS17.done.forget, hP⟩
                  · replace hP := hP.2 (by simp [ht8])
                    refine wp_skip ?_
                    refine then_n ?_
                    refine one_reg ?_
                    refine o_move (v := v5) rfl ?_
                    refine o_move (v := (.string next_1)) rfl ?_
                    refine o_bslice (cs := [(.string next_1)]) (e := 9) hS17 (fun _ => by kernel_rfl) ?_
                    intro b3 w14 hS18
                    obtain ⟨hsm2, hP⟩ := hP
                    refine o_app (Ms := fun v7 => [blk b3 9 [(.string next_1)], vec v7 9 1 ((at_2 ++ [next_1]).length) ((at_2 ++ [next_1]).flatMap encTx), vec v3 28 3 r5_.length ((r5_).flatMap encLk)]) (k' := (at_2 ++ [next_1]).length) (xs' := (at_2 ++ [next_1]).flatMap encTx) Try.underlying29 Try.type9 rfl rfl (bytes := 16) rfl rfl (Nat.succ_pos _) hS18 rfl (q := 1) rfl rfl rfl (blk_row (hS18.get (i := 0) rfl)) (ones rfl) hsm2 (by omega) (by first | rfl | simp) (by simp [encTx]) (fun _ => rfl) ?_
                    intro v7 w15 ho5 hS19
                    have hS20 := hS19.drop 0 (ms' := [vec v7 9 1 ((at_2 ++ [next_1]).length) ((at_2 ++ [next_1]).flatMap encTx), vec v3 28 3 r5_.length ((r5_).flatMap encLk)]) rfl
                    refine o_assign (v := v7) rfl ?_
                    refine wpList_nil ?_
                    refine blk_n ?_
                    refine then_n ?_
                    refine one_reg ?_
                    refine o_move (v := (.int .i64 ((i_2 : Nat) : Int))) rfl ?_
                    refine o_add (r := ((i_2 + 1 : Nat) : Int)) rfl rfl (nw (by omega) (by omega) (by have := hlen3; omega)) ?_
                    refine o_assign (v := (.int .i64 ((i_2 + 1 : Nat) : Int))) rfl ?_
                    refine wpList_nil ?_
                    refine then_n ?_
                    exact ⟨at_2 ++ [next_1], i_2 + 1, _, rfl, hP, v7, σ3, _, (upd_in rfl (upd_in rfl (upd_in rfl (upd_in rfl (upd_in rfl rfl))))), hS20, (Sub.trans hsub1 hsub2), ho5, hsm2⟩
                · replace hP := hP.2 hb2
                  refine o_move (v := (.bool true)) (congrArg Value.bool (congrArg Bool.not (decide_eq_false hb2))) ?_
                  refine o_off rfl rfl ?_
                  refine o_off rfl rfl ?_
                  refine o_off rfl rfl ?_
                  refine o_pick_t (v := (.bool true)) rfl rfl ?_
                  refine wpList_nil ?_
                  refine then_n ?_
                  refine if_t rfl ?_
                  refine seq_reg ?_
                  refine o_assign (v := (.bool false)) rfl ?_
                  refine wpList_nil ?_
                  refine then_n ?_
                  refine wp_ret ?_
                  refine then_r ?_
                  refine blk_r ?_
                  refine then_r ?_
                  refine then_r ?_
                  refine blk_r ?_
                  refine then_r ?_
                  refine ret1 rfl (show ev _ _ _ = (.bool false) from rfl) ?_
                  exact ⟨false, rfl, hS10.done.forget, hP⟩
          · replace hP := hP.2 ht5
            refine wp_exit ?_
            refine then_e ?_
            refine then_e ?_
            refine blk_hit ?_
            refine then_n ?_
            refine wp_seq ?_
            refine seq_reg ?_
            refine o_move (v := v5) rfl ?_
            refine o_move (v := v5) rfl ?_
            refine o_len_vec hS9 rfl (i := 0) rfl Try.underlying29 ?_
            have hlen5 : at_2.length ≤ 9223372036854775807 := by have := hl3; unfold Sml at this; omega
            replace hP := hP hlen5
            obtain ⟨hi4, hP⟩ := hP
            refine o_sub (r := (((at_2.length : Nat) : Int) - (1 : Int))) rfl rfl (nwi rfl hi4) ?_
            obtain ⟨j2_, hj2, hP⟩ := hP
            obtain ⟨x3_, hx3, hP⟩ := hP
            obtain ⟨g7, cp7, hv7⟩ := vec_posv (hS9.get (i := 0) rfl) (lt_of_getq hx3)
            refine o_iaddr_slice (k := j2_) (a' := ⟨g7, j2_ * 1, none⟩) hv7 rfl hj2 (lt_of_getq hx3) Try.underlying29 Try.sizeOf9 (by simp [addr_lit]) ?_
            refine o_load (v := (.string x3_)) rfl Try.isAgg9 (vec_cellv encTx_len (j := 0) hv7 (hS9.get (i := 0) rfl) hx3 rfl) ?_
            refine o_move (v := (.string r4_)) rfl ?_
            refine o_neqs (r := (!decide (x3_ = r4_))) rfl rfl rfl ?_
            refine wpList_nil ?_
            refine then_n ?_
            refine if_nd (x3_ = r4_) rfl (fun ht9 => ?_) (fun ht9 => ?_)
            · replace hP := hP.2 ht9
              refine seq_reg ?_
              refine o_assign (v := (.bool false)) rfl ?_
              refine wpList_nil ?_
              refine then_n ?_
              refine wp_ret ?_
              refine then_r ?_
              refine ret1 rfl (show ev _ _ _ = (.bool false) from rfl) ?_
              exact ⟨false, rfl, hS9.done.forget, hP⟩
            · replace hP := hP.1 ht9
              refine wp_skip ?_
              refine then_n ?_
              refine wp_seq ?_
              refine seq_reg ?_
              refine o_assign (v := (.int .i64 (0 : Int))) rfl ?_
              refine wpList_nil ?_
              refine then_n ?_
              refine wp_block ?_
              obtain ⟨σ6, hS21, hsub5, hr6⟩ := hS9.peek (i := 1) rfl (notin0 _) encLk_len hl1
              obtain ⟨a3, cap3, rfl⟩ := hr6.shape
              refine lp_loop1 (fun i_5 f z => ∃ (σ7 : Hv) (g : Fr), f = (upd (upd (upd (upd g 8 (.string r3_)) 9 (.string r4_)) 10 (.slice a3 r5_.length cap3)) 16 (.int .i64 ((i_5 : Nat) : Int))) ∧ St ⟨w, σ, []⟩ z σ7 [vec v5 9 1 at_2.length ((at_2).flatMap encTx)] ∧ Sub σ6 σ7) hP ⟨σ6, _, (upd_in rfl (upd_in rfl (upd_in rfl (upd_in rfl rfl)))), hS21, (Sub.refl _)⟩ ?_
              clear hP
              rintro i_5 Y11 hP f w16 ⟨σ7, g, rfl, hS22, hsub6⟩
              refine wp_seq ?_
              refine seq_reg ?_
              refine o_move (v := (.int .i64 ((i_5 : Nat) : Int))) rfl ?_
              refine o_move (v := (.slice a3 r5_.length cap3)) rfl ?_
              refine o_len_slice rfl Try.underlying24 ?_
              refine o_lss (r := (decide (((i_5 : Nat) : Int) < ((r5_.length : Nat) : Int)))) rfl rfl rfl ?_
              refine wpList_nil ?_
              refine then_n ?_
              refine if_d (((i_5 : Nat) : Int) < ((r5_.length : Nat) : Int)) rfl (fun ht10 => ?_) (fun ht10 => ?_)
              · replace hP := hP.1 ht10
                refine wp_skip ?_
                refine then_n ?_
                refine wp_seq ?_
                refine wp_block ?_
                refine wp_seq ?_
                refine d_reg (fun z => St ⟨w, σ, []⟩ z σ7 [vec v5 9 1 at_2.length ((at_2).flatMap encTx)]) (by kernel_rfl) rfl rfl ?_
                have hS23 := hS22.drew
                refine d_take (i := 1) (v := (.slice a3 r5_.length cap3)) (l' := #[false, true, false, false, false, false, false, false, false, false, false]) rfl (by kernel_rfl) (by kernel_rfl) (by kernel_rfl) rfl rfl (fun _ _ _ h => h) hS23 (fun w hJ K hK => ?_) ?_
                · refine o_move (v := (.slice a3 r5_.length cap3)) rfl ?_
                  exact ⟨rfl, hK⟩
                refine d_take (i := 2) (v := (.int .i64 ((i_5 : Nat) : Int))) (l' := #[false, true, true, false, false, false, false, false, false, false, false]) rfl (by kernel_rfl) (by kernel_rfl) (by kernel_rfl) rfl rfl (fun _ _ _ h => h) hS23 (fun w hJ K hK => ?_) ?_
                · refine o_move (v := (.int .i64 ((i_5 : Nat) : Int))) rfl ?_
                  exact ⟨rfl, hK⟩
                obtain ⟨hle1, hP⟩ := hP
                have hcl1 := RSl.capLen hr6
                have hn1 : (r5_.take i_5).length = i_5 := by simp only [List.length_take]; omega
                have hr7 := RSl.take hr6 i_5 hle1
                refine d_take (i := 3) (v := (.slice a3 i_5 cap3)) (l' := #[false, true, true, true, false, false, false, false, false, false, false]) rfl (by kernel_rfl) (by kernel_rfl) (by kernel_rfl) rfl rfl (fun _ _ _ h => h) hS23 (fun w hJ K hK => ?_) ?_
                · refine o_prefix (r := i_5) rfl Try.underlying24 Try.sizeOf28 rfl (by omega) ?_
                  exact ⟨rfl, hK⟩
                refine d_take (i := 5) (v := (.slice a3 r5_.length cap3)) (l' := #[false, true, true, true, false, true, false, false, false, false, false]) rfl (by kernel_rfl) (by kernel_rfl) (by kernel_rfl) rfl rfl (fun _ _ _ h => h) hS23 (fun w hJ K hK => ?_) ?_
                · refine o_move (v := (.slice a3 r5_.length cap3)) rfl ?_
                  exact ⟨rfl, hK⟩
                refine d_take (i := 6) (v := (.int .i64 ((i_5 : Nat) : Int))) (l' := #[false, true, true, true, false, true, true, false, false, false, false]) rfl (by kernel_rfl) (by kernel_rfl) (by kernel_rfl) rfl rfl (fun _ _ _ h => h) hS23 (fun w hJ K hK => ?_) ?_
                · refine o_move (v := (.int .i64 ((i_5 : Nat) : Int))) rfl ?_
                  exact ⟨rfl, hK⟩
                refine d_take (i := 7) (v := (.int .i64 ((i_5 + 1 : Nat) : Int))) (l' := #[false, true, true, true, false, true, true, true, false, false, false]) rfl (by kernel_rfl) (by kernel_rfl) (by kernel_rfl) rfl rfl (fun _ _ _ h => h) hS23 (fun w hJ K hK => ?_) ?_
                · refine o_add (r := ((i_5 + 1 : Nat) : Int)) rfl rfl (nw (by omega) (by omega) (by have := hlen3; omega)) ?_
                  exact ⟨rfl, hK⟩
                obtain ⟨hle2, hP⟩ := hP
                have hcl2 := RSl.capLen hr6
                have hr8 := RSl.drop hr6 (i_5 + 1) hle2
                refine d_take (i := 8) (v := (.slice (if cap3 = i_5 + 1 then a3 else a3.map (·.add ((i_5 + 1) * 3))) (r5_.length - (i_5 + 1)) (cap3 - (i_5 + 1)))) (l' := #[false, true, true, true, false, true, true, true, true, false, false]) rfl (by kernel_rfl) (by kernel_rfl) (by kernel_rfl) rfl rfl (fun _ _ _ h => h) hS23 (fun w hJ K hK => ?_) ?_
                · refine o_slice (l := (i_5 + 1)) (r := r5_.length) (v := (.slice (if cap3 = i_5 + 1 then a3 else a3.map (·.add ((i_5 + 1) * 3))) (r5_.length - (i_5 + 1)) (cap3 - (i_5 + 1)))) rfl Try.underlying24 Try.sizeOf28 (.inr ⟨_, rfl, rfl⟩) (.inl ⟨rfl, rfl⟩) (by omega) (by omega) rfl ?_
                  exact ⟨rfl, hK⟩
                refine d_one (i := 0) (by kernel_rfl) rfl (l' := #[true, true, true, true, false, true, true, true, true, false, false]) rfl ?_
                refine o_bslice (cs := []) (e := 28) hS23 (fun _ => by kernel_rfl) ?_
                intro b4 w17 hS24
                refine wpList_nil ?_
                refine ⟨rfl, (hS24.sublist (by first | exact List.nil_sublist _ | simp)), ?_⟩
                refine d_one (i := 4) (by kernel_rfl) rfl (l' := #[true, true, true, true, true, true, true, true, true, false, false]) rfl ?_
                have hS25 := hS24.asVec (i := 0) (ms' := [vec (.slice (some ⟨b4, 0, none⟩) 0 0) 28 3 0 [], vec v5 9 1 at_2.length ((at_2).flatMap encTx)]) (size := 3) rfl rfl (by unfold maxLen; omega) rfl
                obtain ⟨hsm3, hP⟩ := hP
                refine o_appR (enc := encLk) (l := (r5_.take i_5)) (Ms := fun v8 => [vec v8 28 3 ((r5_.take i_5).length) (((r5_.take i_5)).flatMap encLk), vec v5 9 1 at_2.length ((at_2).flatMap encTx)]) (k' := (r5_.take i_5).length) (xs' := ((r5_.take i_5)).flatMap encLk) Try.underlying24 Try.type28 rfl rfl (bytes := 40) rfl rfl (Nat.succ_pos _) hS25 rfl (q := 0) rfl rfl hr7 (View.of hsub6 hS25.view) encLk_len encLk_one hsm3 (by omega) (by first | rfl | simp) (List.nil_append _) (fun _ => rfl) ?_
                intro v8 w18 ho6 hS26
                refine wpList_nil ?_
                refine ⟨rfl, (hS26.sublist (by first | exact List.nil_sublist _ | simp)), ?_⟩
                refine d_one (i := 9) (by kernel_rfl) rfl (l' := #[true, true, true, true, true, true, true, true, true, true, false]) rfl ?_
                obtain ⟨hsm4, hP⟩ := hP
                refine o_appR (enc := encLk) (l := (r5_.drop (i_5 + 1))) (Ms := fun v9 => [vec v9 28 3 (((r5_.take i_5) ++ (r5_.drop (i_5 + 1))).length) (((r5_.take i_5) ++ (r5_.drop (i_5 + 1))).flatMap encLk), vec v5 9 1 at_2.length ((at_2).flatMap encTx)]) (k' := ((r5_.take i_5) ++ (r5_.drop (i_5 + 1))).length) (xs' := ((r5_.take i_5) ++ (r5_.drop (i_5 + 1))).flatMap encLk) Try.underlying24 Try.type28 rfl rfl (bytes := 40) rfl rfl (Nat.succ_pos _) hS26 rfl (q := 0) rfl rfl hr8 (View.of hsub6 hS26.view) encLk_len encLk_one hsm4 (by omega) (by first | rfl | simp) (List.flatMap_append).symm (fun _ => rfl) ?_
                intro v9 w19 ho7 hS27
                refine wpList_nil ?_
                refine ⟨rfl, (hS27.sublist (by first | exact List.nil_sublist _ | simp)), wpJ_weak (J' := fun z => St ⟨w, σ, []⟩ z σ7 [vec v9 28 3 (((r5_.take i_5) ++ (r5_.drop (i_5 + 1))).length) (((r5_.take i_5) ++ (r5_.drop (i_5 + 1))).flatMap encLk), vec v5 9 1 at_2.length ((at_2).flatMap encTx)]) (fun w h => h.sublist (by first | exact List.nil_sublist _ | simp)) _ _ _ _ ?_⟩
                refine d_take (i := 10) (v := v9) (l' := #[true, true, true, true, true, true, true, true, true, true, true]) rfl (by kernel_rfl) (by kernel_rfl) (by kernel_rfl) rfl rfl (fun _ _ _ h => h) hS27 (fun w hJ K hK => ?_) ?_
                · refine o_assign (v := v9) rfl ?_
                  exact ⟨rfl, hK⟩
                refine d_done (by kernel_rfl) ?_
                refine then_n ?_
                refine seq_reg ?_
                refine o_move (v := v9) rfl ?_
                refine o_move (v := (.string r3_)) rfl ?_
                refine o_move (v := (.string r4_)) rfl ?_
                obtain ⟨σ8, hS28, hsub7, hr9⟩ := hS27.peek (i := 0) rfl (notin0 _) encLk_len hsm4
                obtain ⟨Y12, hK10, hc9⟩ := hP
                refine o_call (args := [v9, (.string r3_), (.string r4_)]) rfl Try.call15 (Calls.mono (w_identity_Same ((r5_.take i_5) ++ (r5_.drop (i_5 + 1))) r3_ r4_ v9 hS28.view hr9 hc9) ?_)
                rintro _ w20 ⟨r10_, rfl, hg9, hY10⟩
                refine ⟨_, rfl, ?_⟩
                have hg9b := hg9.back hsub7
                have hS29 := hS27.grow hg9b
                replace hP := hK10 r10_ hY10
                refine wpList_nil ?_
                refine then_n ?_
                refine if_b rfl (fun ht11 => ?_) (fun ht11 => ?_)
                · replace hP := hP.1 ht11
                  refine seq_reg ?_
                  refine o_assign (v := (.bool false)) rfl ?_
                  refine wpList_nil ?_
                  refine then_n ?_
                  refine wp_ret ?_
                  refine blk_r ?_
                  refine then_r ?_
                  refine then_r ?_
                  refine blk_r ?_
                  refine then_r ?_
                  refine ret1 rfl (show ev _ _ _ = (.bool false) from rfl) ?_
                  exact ⟨false, rfl, hS29.done.forget, hP⟩
                · replace hP := hP.2 (by simp [ht11])
                  refine wp_skip ?_
                  refine blk_n ?_
                  refine then_n ?_
                  refine one_reg ?_
                  refine o_move (v := (.int .i64 ((i_5 : Nat) : Int))) rfl ?_
                  refine o_add (r := ((i_5 + 1 : Nat) : Int)) rfl rfl (nw (by omega) (by omega) (by have := hlen3; omega)) ?_
                  refine o_assign (v := (.int .i64 ((i_5 + 1 : Nat) : Int))) rfl ?_
                  refine wpList_nil ?_
                  refine then_n ?_
                  have hS30 := hS29.front 1 rfl (ms' := [vec v5 9 1 at_2.length ((at_2).flatMap encTx), vec v9 28 3 (((r5_.take i_5) ++ (r5_.drop (i_5 + 1))).length) (((r5_.take i_5) ++ (r5_.drop (i_5 + 1))).flatMap encLk)]) rfl
                  exact ⟨i_5 + 1, _, rfl, hP, σ7, _, (upd_in rfl (upd_in rfl (upd_in rfl (upd_in rfl rfl)))), (hS30.keep 1 (ms' := [vec v5 9 1 at_2.length ((at_2).flatMap encTx)]) rfl), hsub6⟩
              · replace hP := hP.2 ht10
                refine wp_exit ?_
                refine then_e ?_
                refine then_e ?_
                refine blk_hit ?_
                refine then_n ?_
                refine seq_reg ?_
                refine o_assign (v := (.bool true)) rfl ?_
                refine wpList_nil ?_
                refine then_n ?_
                refine wp_ret ?_
                refine ret1 rfl (show ev _ _ _ = (.bool true) from rfl) ?_
                exact ⟨true, rfl, hS22.done.forget, hP⟩

end Go.Proofs.Ytehmnkholidanaa
