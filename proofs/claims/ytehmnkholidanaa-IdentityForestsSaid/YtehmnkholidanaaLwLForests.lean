/- A call does what its plain meaning says, and leaves the memory that was there as it was: law26_IdentityForests. -/
import Derived.Test.YtehmnkholidanaaRows
import Derived.Test.YtehmnkholidanaaFlLift
import Derived.Test.YtehmnkholidanaaPuLForests
import Derived.KernelRfl
import Derived.Test.YtehmnkholidanaaLwB
namespace Go.Proofs.Ytehmnkholidanaa
open Go Go.RowKit Go.Fl
set_option maxHeartbeats 2000000 in
theorem w_law26_IdentityForests {σ : Hv} {w : World} (l_p : (List UInt8)) (v1 : Value) {K : Bool → Prop} (hV : View σ w) (hr1 : RSl 1 RU8 σ v1 l_p) (hP : P_law26_IdentityForests l_p K) :
    Calls Try.prog 7 #[v1] w (fun e w1 => ∃ (r1 : Bool), e = .returned (.bool (r1)) ∧ Grow [] σ w σ w1 ∧ K r1) := by
  unfold P_law26_IdentityForests at hP
  obtain ⟨a1, cap1, rfl⟩ := hr1.shape
  refine enter Try.func7 rfl rfl rfl ?_
  have hS := St.start hV
  refine seq_reg ?_
  refine o_assign (v := (.bool false)) rfl ?_
  refine wpList_nil ?_
  refine then_n ?_
  refine wp_seq ?_
  refine seq_reg ?_
  obtain ⟨Y1, hK1, hc1⟩ := hP
  refine o_call (args := []) rfl Try.call11 (Calls.mono (w_law26_awake hS.view hc1) ?_)
  rintro _ w1 ⟨r1_, rfl, hg1, hY1⟩
  refine ⟨_, rfl, ?_⟩
  have hS1 := hS.grow hg1
  replace hP := hK1 r1_ hY1
  refine o_not (r := (!r1_)) rfl rfl ?_
  refine wpList_nil ?_
  refine then_n ?_
  refine if_nb rfl (fun ht1 => ?_) (fun ht1 => ?_)
  · replace hP := hP.2 (by simp [ht1])
    refine seq_reg ?_
    refine o_assign (v := (.bool false)) rfl ?_
    refine wpList_nil ?_
    refine then_n ?_
    refine wp_ret ?_
    refine then_r ?_
    refine ret1 rfl (show ev _ _ _ = (.bool false) from rfl) ?_
    exact ⟨false, rfl, hS1.done.forget, hP⟩
  · replace hP := hP.1 ht1
    refine wp_skip ?_
    refine then_n ?_
    refine wp_seq ?_
    refine seq_reg ?_
    refine o_move (v := (.slice a1 l_p.length cap1)) rfl ?_
    refine o_len_slice rfl Try.underlying22 ?_
    have hlen1 := RSl.len63 hr1
    replace hP := hP hlen1
    refine o_gtr (r := (decide ((60 : Int) < ((l_p.length : Nat) : Int)))) rfl rfl rfl ?_
    refine wpList_nil ?_
    refine then_n ?_
    refine if_d ((60 : Int) < ((l_p.length : Nat) : Int)) rfl (fun ht2 => ?_) (fun ht2 => ?_)
    · replace hP := hP.1 ht2
      refine seq_reg ?_
      refine o_assign (v := (.bool true)) rfl ?_
      refine wpList_nil ?_
      refine then_n ?_
      refine wp_ret ?_
      refine then_r ?_
      refine ret1 rfl (show ev _ _ _ = (.bool true) from rfl) ?_
      exact ⟨true, rfl, hS1.done.forget, hP⟩
    · replace hP := hP.2 ht2
      refine wp_skip ?_
      refine then_n ?_
      refine seq_reg ?_
      refine o_move (v := (.slice a1 l_p.length cap1)) rfl ?_
      obtain ⟨Y2, hK2, hc2⟩ := hP
      refine o_call (args := [(.slice a1 l_p.length cap1), (.bool true)]) rfl Try.call12 (Calls.mono (w_data_Links l_p true (.slice a1 l_p.length cap1) hS1.view hr1 hc2) ?_)
      rintro _ w2 ⟨r2_, v2, σ1, rfl, hg2, hr2, hY2⟩
      refine ⟨_, rfl, ?_⟩
      have hS2 := hS1.grow hg2
      replace hP := hK2 r2_ hY2
      obtain ⟨a2, cap2, rfl⟩ := hr2.shape
      refine o_assign (v := (.slice a2 r2_.length cap2)) rfl ?_
      refine wpList_nil ?_
      refine then_n ?_
      refine seq_reg ?_
      refine o_move (v := (.slice a2 r2_.length cap2)) rfl ?_
      obtain ⟨Y3, hK3, hc3⟩ := hP
      refine o_call (args := [(.slice a2 r2_.length cap2)]) rfl Try.call21 (Calls.mono (w_identity_Forest r2_ (.slice a2 r2_.length cap2) hS2.view hr2 hc3) ?_)
      rintro _ w3 ⟨r3_, v3, σ2, rfl, hg3, hr3, hY3⟩
      refine ⟨_, rfl, ?_⟩
      have hS3 := hS2.grow hg3
      replace hP := hK3 r3_ hY3
      obtain ⟨a3, cap3, rfl⟩ := hr3.shape
      refine o_assign (v := (.slice a3 r3_.length cap3)) rfl ?_
      refine wpList_nil ?_
      refine then_n ?_
      refine seq_reg ?_
      obtain ⟨Y4, hK4, hc4⟩ := hP
      refine o_call (args := []) rfl Try.call14 (Calls.mono (w_data_Ids hS3.view hc4) ?_)
      rintro _ w4 ⟨r4_, v4, rfl, hg4, hl1, ho1, hY4⟩
      refine ⟨_, rfl, ?_⟩
      have hS4 := hS3.growAdd hg4 (o := vec v4 9 1 r4_.length ((r4_).flatMap encTx)) ho1
      replace hP := hK4 r4_ hY4
      refine o_assign (v := v4) rfl ?_
      refine wpList_nil ?_
      refine then_n ?_
      refine seq_reg ?_
      refine o_assign (v := (.int .i64 (0 : Int))) rfl ?_
      refine wpList_nil ?_
      refine then_n ?_
      refine wp_seq ?_
      refine seq_reg ?_
      refine o_assign (v := (.int .i64 (0 : Int))) rfl ?_
      refine wpList_nil ?_
      refine then_n ?_
      refine wp_block ?_
      refine lp_loop2 (fun roots_2 i_2 f z => ∃ (σ3 : Hv) (g : Fr), f = (upd (upd (upd (upd (upd g 3 (.slice a2 r2_.length cap2)) 4 (.slice a3 r3_.length cap3)) 5 v4) 6 (.int .i64 ((roots_2 : Nat) : Int))) 7 (.int .i64 ((i_2 : Nat) : Int))) ∧ St ⟨w, σ, []⟩ z σ3 [vec v4 9 1 r4_.length ((r4_).flatMap encTx)] ∧ Sub σ2 σ3) hP ⟨σ2, _, (upd_in rfl (upd_in rfl (upd_in rfl (upd_in rfl (upd_in rfl rfl))))), hS4, (Sub.refl _)⟩ ?_
      clear hP
      rintro roots_2 i_2 Y5 hP f w5 ⟨σ3, g, rfl, hS5, hsub1⟩
      refine wp_seq ?_
      refine seq_reg ?_
      refine o_move (v := (.int .i64 ((i_2 : Nat) : Int))) rfl ?_
      refine o_move (v := v4) rfl ?_
      refine o_len_vec hS5 rfl (i := 0) rfl Try.underlying29 ?_
      have hlen2 : r4_.length ≤ 9223372036854775807 := by have := hl1; unfold Sml at this; omega
      replace hP := hP hlen2
      refine o_lss (r := (decide (((i_2 : Nat) : Int) < ((r4_.length : Nat) : Int)))) rfl rfl rfl ?_
      refine wpList_nil ?_
      refine then_n ?_
      refine if_d (((i_2 : Nat) : Int) < ((r4_.length : Nat) : Int)) rfl (fun ht3 => ?_) (fun ht3 => ?_)
      · replace hP := hP.1 ht3
        refine wp_skip ?_
        refine then_n ?_
        refine wp_seq ?_
        refine wp_block ?_
        refine wp_seq ?_
        refine d_reg (fun z => St ⟨w, σ, []⟩ z σ3 [vec v4 9 1 r4_.length ((r4_).flatMap encTx)]) (by kernel_rfl) rfl rfl ?_
        have hS6 := hS5.drew
        refine d_take (i := 0) (v := (.slice a2 r2_.length cap2)) (l' := #[true, false, false, false, false, false, false, false, false, false, false]) rfl (by kernel_rfl) (by kernel_rfl) (by kernel_rfl) rfl rfl (fun _ _ _ h => h) hS6 (fun w hJ K hK => ?_) ?_
        · refine o_move (v := (.slice a2 r2_.length cap2)) rfl ?_
          exact ⟨rfl, hK⟩
        refine d_take (i := 1) (v := v4) (l' := #[true, true, false, false, false, false, false, false, false, false, false]) rfl (by kernel_rfl) (by kernel_rfl) (by kernel_rfl) rfl rfl (fun _ _ _ h => h) hS6 (fun w hJ K hK => ?_) ?_
        · refine o_move (v := v4) rfl ?_
          exact ⟨rfl, hK⟩
        refine d_take (i := 2) (v := (.int .i64 ((i_2 : Nat) : Int))) (l' := #[true, true, true, false, false, false, false, false, false, false, false]) rfl (by kernel_rfl) (by kernel_rfl) (by kernel_rfl) rfl rfl (fun _ _ _ h => h) hS6 (fun w hJ K hK => ?_) ?_
        · refine o_move (v := (.int .i64 ((i_2 : Nat) : Int))) rfl ?_
          exact ⟨rfl, hK⟩
        obtain ⟨x1_, hx1⟩ := getq (l := r4_) (k := i_2) (by have := ht3; omega)
        replace hP := hP x1_ hx1
        obtain ⟨g1, cp1, hv1⟩ := vec_posv (hS6.get (i := 0) rfl) (lt_of_getq hx1)
        refine d_take (i := 3) (v := (.pointer (some ⟨g1, i_2 * 1, none⟩))) (l' := #[true, true, true, true, false, false, false, false, false, false, false]) rfl (by kernel_rfl) (by kernel_rfl) (by kernel_rfl) rfl rfl (fun _ _ _ h => h) hS6 (fun w hJ K hK => ?_) ?_
        · refine o_iaddr_slice (k := i_2) (a' := ⟨g1, i_2 * 1, none⟩) hv1 rfl rfl (lt_of_getq hx1) Try.underlying29 Try.sizeOf9 (by simp [addr_lit]) ?_
          exact ⟨rfl, hK⟩
        refine d_take (i := 4) (v := (.string x1_)) (l' := #[true, true, true, true, true, false, false, false, false, false, false]) rfl (by kernel_rfl) (by kernel_rfl) (by kernel_rfl) rfl rfl (fun _ _ _ h => h) hS6 (fun w hJ K hK => ?_) ?_
        · refine o_load (v := (.string x1_)) rfl Try.isAgg9 (vec_cellv encTx_len (j := 0) hv1 (hJ.get (i := 0) rfl) hx1 rfl) ?_
          exact ⟨rfl, hK⟩
        refine d_take (i := 6) (v := v4) (l' := #[true, true, true, true, true, false, true, false, false, false, false]) rfl (by kernel_rfl) (by kernel_rfl) (by kernel_rfl) rfl rfl (fun _ _ _ h => h) hS6 (fun w hJ K hK => ?_) ?_
        · refine o_move (v := v4) rfl ?_
          exact ⟨rfl, hK⟩
        refine d_take (i := 7) (v := (.int .i64 ((i_2 : Nat) : Int))) (l' := #[true, true, true, true, true, false, true, true, false, false, false]) rfl (by kernel_rfl) (by kernel_rfl) (by kernel_rfl) rfl rfl (fun _ _ _ h => h) hS6 (fun w hJ K hK => ?_) ?_
        · refine o_move (v := (.int .i64 ((i_2 : Nat) : Int))) rfl ?_
          exact ⟨rfl, hK⟩
        obtain ⟨g2, cp2, hv2⟩ := vec_posv (hS6.get (i := 0) rfl) (lt_of_getq hx1)
        refine d_take (i := 8) (v := (.pointer (some ⟨g2, i_2 * 1, none⟩))) (l' := #[true, true, true, true, true, false, true, true, true, false, false]) rfl (by kernel_rfl) (by kernel_rfl) (by kernel_rfl) rfl rfl (fun _ _ _ h => h) hS6 (fun w hJ K hK => ?_) ?_
        · refine o_iaddr_slice (k := i_2) (a' := ⟨g2, i_2 * 1, none⟩) hv2 rfl rfl (lt_of_getq hx1) Try.underlying29 Try.sizeOf9 (by simp [addr_lit]) ?_
          exact ⟨rfl, hK⟩
        refine d_take (i := 9) (v := (.string x1_)) (l' := #[true, true, true, true, true, false, true, true, true, true, false]) rfl (by kernel_rfl) (by kernel_rfl) (by kernel_rfl) rfl rfl (fun _ _ _ h => h) hS6 (fun w hJ K hK => ?_) ?_
        · refine o_load (v := (.string x1_)) rfl Try.isAgg9 (vec_cellv encTx_len (j := 0) hv2 (hJ.get (i := 0) rfl) hx1 rfl) ?_
          exact ⟨rfl, hK⟩
        refine d_one (i := 5) (by kernel_rfl) rfl (l' := #[true, true, true, true, true, true, true, true, true, true, false]) rfl ?_
        obtain ⟨Y6, hK5, hc5⟩ := hP
        refine o_call (args := [(.slice a2 r2_.length cap2), (.string x1_)]) rfl Try.call20 (Calls.mono (w_identity_Root r2_ x1_ (.slice a2 r2_.length cap2) hS6.view (RSl.menc (Sub.trans hg3.sub hsub1) hr2) hc5) ?_)
        rintro _ w6 ⟨r5_, rfl, hg5, hY5⟩
        refine ⟨_, rfl, ?_⟩
        have hS7 := hS6.grow hg5
        replace hP := hK5 r5_ hY5
        refine wpList_nil ?_
        refine ⟨rfl, hS7, ?_⟩
        refine d_take (i := 10) (v := (.bool (decide (r5_ = x1_)))) (l' := #[true, true, true, true, true, true, true, true, true, true, true]) rfl (by kernel_rfl) (by kernel_rfl) (by kernel_rfl) rfl rfl (fun _ _ _ h => h) hS7 (fun w hJ K hK => ?_) ?_
        · refine o_eqls (r := (decide (r5_ = x1_))) rfl rfl rfl ?_
          exact ⟨rfl, hK⟩
        refine d_done (by kernel_rfl) ?_
        refine then_n ?_
        refine if_d (r5_ = x1_) rfl (fun ht4 => ?_) (fun ht4 => ?_)
        · replace hP := hP.1 ht4
          refine one_reg ?_
          refine o_move (v := (.int .i64 ((roots_2 : Nat) : Int))) rfl ?_
          obtain ⟨hi1, hP⟩ := hP
          refine o_add (r := ((roots_2 + 1 : Nat) : Int)) rfl rfl (nwi (by omega) hi1) ?_
          refine o_assign (v := (.int .i64 ((roots_2 + 1 : Nat) : Int))) rfl ?_
          refine wpList_nil ?_
          refine blk_n ?_
          refine then_n ?_
          refine one_reg ?_
          refine o_move (v := (.int .i64 ((i_2 : Nat) : Int))) rfl ?_
          refine o_add (r := ((i_2 + 1 : Nat) : Int)) rfl rfl (nw (by omega) (by omega) (by have := hlen2; omega)) ?_
          refine o_assign (v := (.int .i64 ((i_2 + 1 : Nat) : Int))) rfl ?_
          refine wpList_nil ?_
          refine then_n ?_
          exact ⟨roots_2 + 1, i_2 + 1, _, rfl, hP, σ3, _, (upd_in rfl (upd_in rfl (upd_in rfl (upd_in rfl (upd_in rfl rfl))))), hS7, hsub1⟩
        · replace hP := hP.2 ht4
          refine wp_skip ?_
          refine blk_n ?_
          refine then_n ?_
          refine one_reg ?_
          refine o_move (v := (.int .i64 ((i_2 : Nat) : Int))) rfl ?_
          refine o_add (r := ((i_2 + 1 : Nat) : Int)) rfl rfl (nw (by omega) (by omega) (by have := hlen2; omega)) ?_
          refine o_assign (v := (.int .i64 ((i_2 + 1 : Nat) : Int))) rfl ?_
          refine wpList_nil ?_
          refine then_n ?_
          exact ⟨roots_2, i_2 + 1, _, rfl, hP, σ3, _, (upd_in rfl (upd_in rfl (upd_in rfl (upd_in rfl (upd_in rfl rfl))))), hS7, hsub1⟩
      · replace hP := hP.2 ht3
        refine wp_exit ?_
        refine then_e ?_
        refine then_e ?_
        refine blk_hit ?_
        refine then_n ?_
        refine seq_reg ?_
        refine o_move (v := (.slice a3 r3_.length cap3)) rfl ?_
        refine o_len_slice rfl Try.underlying24 ?_
        have hlen3 := RSl.len63 hr3
        replace hP := hP hlen3
        refine o_move (v := v4) rfl ?_
        refine o_len_vec hS5 rfl (i := 0) rfl Try.underlying29 ?_
        refine o_move (v := (.int .i64 ((roots_2 : Nat) : Int))) rfl ?_
        obtain ⟨hi2, hP⟩ := hP
        refine o_sub (r := (((r4_.length : Nat) : Int) - ((roots_2 : Nat) : Int))) rfl rfl (nwi rfl hi2) ?_
        refine o_eql (r := (decide (((r3_.length : Nat) : Int) = (((r4_.length : Nat) : Int) - ((roots_2 : Nat) : Int))))) rfl rfl rfl ?_
        by_cases hb1 : ((r3_.length : Nat) : Int) = (((r4_.length : Nat) : Int) - ((roots_2 : Nat) : Int))
        · replace hP := hP.1 hb1
          refine o_move (v := (.bool true)) (congrArg Value.bool (decide_eq_true hb1)) ?_
          refine o_on rfl rfl ?_
          refine o_move (v := (.slice a3 r3_.length cap3)) rfl ?_
          refine o_on rfl rfl ?_
          obtain ⟨Y7, hK6, hc6⟩ := hP
          refine o_call (args := [(.slice a3 r3_.length cap3)]) rfl Try.call21 (Calls.mono (w_identity_Forest r3_ (.slice a3 r3_.length cap3) hS5.view (RSl.menc hsub1 hr3) hc6) ?_)
          rintro _ w7 ⟨r6_, v5, σ4, rfl, hg6, hr5, hY6⟩
          refine ⟨_, rfl, ?_⟩
          have hS8 := hS5.grow hg6
          replace hP := hK6 r6_ hY6
          obtain ⟨a4, cap4, rfl⟩ := hr5.shape
          refine o_on rfl rfl ?_
          refine o_move (v := (.slice a3 r3_.length cap3)) rfl ?_
          refine o_on rfl rfl ?_
          obtain ⟨Y8, hK7, hc7⟩ := hP
          refine o_call (args := [(.slice a4 r6_.length cap4), (.slice a3 r3_.length cap3)]) rfl Try.call22 (Calls.mono (w_ref26_SameLinks r6_ r3_ (.slice a4 r6_.length cap4) (.slice a3 r3_.length cap3) hS8.view hr5 (RSl.menc (Sub.trans hsub1 hg6.sub) hr3) hc7) ?_)
          rintro _ w8 ⟨r7_, rfl, hg7, hY7⟩
          refine ⟨_, rfl, ?_⟩
          have hS9 := hS8.grow hg7
          replace hP := hK7 r7_ hY7
          refine o_pick_t (v := (.bool (r7_))) rfl rfl ?_
          refine o_assign (v := (.bool (r7_))) rfl ?_
          refine wpList_nil ?_
          refine then_n ?_
          refine wp_ret ?_
          refine ret1 rfl (show ev _ _ _ = (.bool (r7_)) from rfl) ?_
          exact ⟨(r7_), rfl, hS9.done.forget, hP⟩
        · replace hP := hP.2 hb1
          refine o_move (v := (.bool false)) (congrArg Value.bool (decide_eq_false hb1)) ?_
          refine o_off rfl rfl ?_
          refine o_off rfl rfl ?_
          refine o_off rfl rfl ?_
          refine o_off rfl rfl ?_
          refine o_pick_f (v := (.bool false)) rfl rfl ?_
          refine o_assign (v := (.bool false)) rfl ?_
          refine wpList_nil ?_
          refine then_n ?_
          refine wp_ret ?_
          refine ret1 rfl (show ev _ _ _ = (.bool false) from rfl) ?_
          exact ⟨false, rfl, hS5.done.forget, hP⟩

end Go.Proofs.Ytehmnkholidanaa
