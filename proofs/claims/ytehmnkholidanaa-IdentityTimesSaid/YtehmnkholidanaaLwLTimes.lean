/- A call does what its plain meaning says, and leaves the memory that was there as it was: law26_IdentityTimes. -/
import Derived.Test.YtehmnkholidanaaRows
import Derived.Test.YtehmnkholidanaaFlLift
import Derived.Test.YtehmnkholidanaaPuLTimes
import Derived.KernelRfl
import Derived.Test.YtehmnkholidanaaLwB
namespace Go.Proofs.Ytehmnkholidanaa
open Go Go.RowKit Go.Fl
set_option maxHeartbeats 2000000 in
theorem w_law26_IdentityTimes {σ : Hv} {w : World} (l_p : (List UInt8)) (s_p : Int) (t_p : Int) (v1 : Value) {K : Bool → Prop} (hV : View σ w) (hr1 : RSl 1 RU8 σ v1 l_p) (hP : P_law26_IdentityTimes l_p s_p t_p K) :
    Calls Try.prog 8 #[v1, (.int .u8 s_p), (.int .u8 t_p)] w (fun e w1 => ∃ (r1 : Bool), e = .returned (.bool (r1)) ∧ Grow [] σ w σ w1 ∧ K r1) := by
  unfold P_law26_IdentityTimes at hP
  obtain ⟨a1, cap1, rfl⟩ := hr1.shape
  refine enter Try.func8 rfl rfl rfl ?_
  have hS := St.start hV
  refine seq_reg ?_
  refine o_assign (v := (.bool false)) rfl ?_
  refine wpList_nil ?_
  refine then_n ?_
  refine wp_seq ?_
  refine seq_reg ?_
  obtain ⟨Y1, hK1, hc1⟩ := hP
  refine o_call (args := []) rfl Try.call11 (Calls.mono (w_law26_awake hS.view hc1) ?_)
  rintro _ w1 ⟨r1_, rfl, hg1, hY1⟩
  refine ⟨_, rfl, ?_⟩
  have hS1 := hS.grow hg1
  replace hP := hK1 r1_ hY1
  refine o_not (r := (!r1_)) rfl rfl ?_
  refine wpList_nil ?_
  refine then_n ?_
  refine if_nb rfl (fun ht1 => ?_) (fun ht1 => ?_)
  · replace hP := hP.2 (by simp [ht1])
    refine seq_reg ?_
    refine o_assign (v := (.bool false)) rfl ?_
    refine wpList_nil ?_
    refine then_n ?_
    refine wp_ret ?_
    refine then_r ?_
    refine ret1 rfl (show ev _ _ _ = (.bool false) from rfl) ?_
    exact ⟨false, rfl, hS1.done.forget, hP⟩
  · replace hP := hP.1 ht1
    refine wp_skip ?_
    refine then_n ?_
    refine wp_seq ?_
    refine seq_reg ?_
    refine o_move (v := (.slice a1 l_p.length cap1)) rfl ?_
    refine o_len_slice rfl Try.underlying22 ?_
    have hlen1 := RSl.len63 hr1
    replace hP := hP hlen1
    refine o_gtr (r := (decide ((60 : Int) < ((l_p.length : Nat) : Int)))) rfl rfl rfl ?_
    refine wpList_nil ?_
    refine then_n ?_
    refine if_d ((60 : Int) < ((l_p.length : Nat) : Int)) rfl (fun ht2 => ?_) (fun ht2 => ?_)
    · replace hP := hP.1 ht2
      refine seq_reg ?_
      refine o_assign (v := (.bool true)) rfl ?_
      refine wpList_nil ?_
      refine then_n ?_
      refine wp_ret ?_
      refine then_r ?_
      refine ret1 rfl (show ev _ _ _ = (.bool true) from rfl) ?_
      exact ⟨true, rfl, hS1.done.forget, hP⟩
    · replace hP := hP.2 ht2
      refine wp_skip ?_
      refine then_n ?_
      refine seq_reg ?_
      refine o_move (v := (.slice a1 l_p.length cap1)) rfl ?_
      obtain ⟨Y2, hK2, hc2⟩ := hP
      refine o_call (args := [(.slice a1 l_p.length cap1), (.bool false)]) rfl Try.call12 (Calls.mono (w_data_Links l_p false (.slice a1 l_p.length cap1) hS1.view hr1 hc2) ?_)
      rintro _ w2 ⟨r2_, v2, σ1, rfl, hg2, hr2, hY2⟩
      refine ⟨_, rfl, ?_⟩
      have hS2 := hS1.grow hg2
      replace hP := hK2 r2_ hY2
      obtain ⟨a2, cap2, rfl⟩ := hr2.shape
      refine o_assign (v := (.slice a2 r2_.length cap2)) rfl ?_
      refine wpList_nil ?_
      refine then_n ?_
      refine seq_reg ?_
      refine o_move (v := (.slice a2 r2_.length cap2)) rfl ?_
      refine o_move (v := (.int .u8 s_p)) rfl ?_
      refine o_move (v := (.int .u8 t_p)) rfl ?_
      refine o_min (r := (min s_p t_p)) rfl rfl rfl ?_
      obtain ⟨hi1, hP⟩ := hP
      refine o_conv (r := (min s_p t_p)) rfl Try.underlying5 Try.underlying3 (nwi rfl hi1) ?_
      refine o_rem (r := ((min s_p t_p).tmod (40 : Int))) rfl rfl (by omega) rfl ?_
      obtain ⟨Y3, hK3, hc3⟩ := hP
      refine o_call (args := [(.slice a2 r2_.length cap2), (.int .i64 ((min s_p t_p).tmod (40 : Int)))]) rfl Try.call23 (Calls.mono (w_identity_Until r2_ ((min s_p t_p).tmod (40 : Int)) (.slice a2 r2_.length cap2) hS2.view hr2 hc3) ?_)
      rintro _ w3 ⟨r3_, v3, σ2, rfl, hg3, hr3, hY3⟩
      refine ⟨_, rfl, ?_⟩
      have hS3 := hS2.grow hg3
      replace hP := hK3 r3_ hY3
      obtain ⟨a3, cap3, rfl⟩ := hr3.shape
      refine o_move (v := (.slice a2 r2_.length cap2)) rfl ?_
      refine o_move (v := (.int .u8 s_p)) rfl ?_
      refine o_move (v := (.int .u8 t_p)) rfl ?_
      refine o_max (r := (max s_p t_p)) rfl rfl rfl ?_
      obtain ⟨hi3, hP⟩ := hP
      refine o_conv (r := (max s_p t_p)) rfl Try.underlying5 Try.underlying3 (nwi rfl hi3) ?_
      refine o_rem (r := ((max s_p t_p).tmod (40 : Int))) rfl rfl (by omega) rfl ?_
      obtain ⟨Y4, hK4, hc4⟩ := hP
      refine o_call (args := [(.slice a2 r2_.length cap2), (.int .i64 ((max s_p t_p).tmod (40 : Int)))]) rfl Try.call23 (Calls.mono (w_identity_Until r2_ ((max s_p t_p).tmod (40 : Int)) (.slice a2 r2_.length cap2) hS3.view (RSl.menc hg3.sub hr2) hc4) ?_)
      rintro _ w4 ⟨r4_, v4, σ3, rfl, hg4, hr4, hY4⟩
      refine ⟨_, rfl, ?_⟩
      have hS4 := hS3.grow hg4
      replace hP := hK4 r4_ hY4
      obtain ⟨a4, cap4, rfl⟩ := hr4.shape
      refine o_assign (v := (.slice a3 r3_.length cap3)) rfl ?_
      refine o_assign (v := (.slice a4 r4_.length cap4)) rfl ?_
      refine wpList_nil ?_
      refine then_n ?_
      obtain ⟨Y5, hK5, hP⟩ := hP
      refine cut (fun f z => ∃ (early_1 : (List Lk.L3)) (late_1 : (List Lk.L3)) (v5 : Value) (v6 : Value) (σ4 : Hv) (g : Fr), Y5 early_1 late_1 ∧ f = (upd (upd (upd g 7 (.slice a2 r2_.length cap2)) 8 v5) 9 v6) ∧ St ⟨w, σ, []⟩ z σ4 [] ∧ Sub σ3 σ4 ∧ RSl 3 (REnc encLk) σ4 v5 early_1 ∧ RSl 3 (REnc encLk) σ4 v6 late_1) ?_ ?_
      · refine seq_reg ?_
        refine o_move (v := (.int .u8 s_p)) rfl ?_
        refine o_move (v := (.int .u8 t_p)) rfl ?_
        refine o_min (r := (min s_p t_p)) rfl rfl rfl ?_
        obtain ⟨hi5, hP⟩ := hP
        refine o_conv (r := (min s_p t_p)) rfl Try.underlying5 Try.underlying3 (nwi rfl hi5) ?_
        refine o_rem (r := ((min s_p t_p).tmod (40 : Int))) rfl rfl (by omega) rfl ?_
        refine o_move (v := (.int .u8 s_p)) rfl ?_
        refine o_move (v := (.int .u8 t_p)) rfl ?_
        refine o_max (r := (max s_p t_p)) rfl rfl rfl ?_
        obtain ⟨hi7, hP⟩ := hP
        refine o_conv (r := (max s_p t_p)) rfl Try.underlying5 Try.underlying3 (nwi rfl hi7) ?_
        refine o_rem (r := ((max s_p t_p).tmod (40 : Int))) rfl rfl (by omega) rfl ?_
        refine o_gtr (r := (decide (((max s_p t_p).tmod (40 : Int)) < ((min s_p t_p).tmod (40 : Int))))) rfl rfl rfl ?_
        refine wpList_nil ?_
        refine then_n ?_
        refine if_d (((max s_p t_p).tmod (40 : Int)) < ((min s_p t_p).tmod (40 : Int))) rfl (fun ht3 => ?_) (fun ht3 => ?_)
        · replace hP := hP.1 ht3
          refine one_reg ?_
          refine o_move (v := (.slice a4 r4_.length cap4)) rfl ?_
          refine o_move (v := (.slice a3 r3_.length cap3)) rfl ?_
          refine o_assign (v := (.slice a4 r4_.length cap4)) rfl ?_
          refine o_assign (v := (.slice a3 r3_.length cap3)) rfl ?_
          refine wpList_nil ?_
          refine then_n ?_
          exact ⟨_, rfl, r4_, r3_, (.slice a4 r4_.length cap4), (.slice a3 r3_.length cap3), σ3, _, hP, (upd_in rfl (upd_in rfl (upd_in rfl rfl))), hS4, (Sub.refl _), hr4, (RSl.menc hg4.sub hr3)⟩
        · replace hP := hP.2 ht3
          refine wp_skip ?_
          refine then_n ?_
          exact ⟨_, rfl, r3_, r4_, (.slice a3 r3_.length cap3), (.slice a4 r4_.length cap4), σ3, _, hP, (upd_in rfl (upd_in rfl (upd_in rfl rfl))), hS4, (Sub.refl _), (RSl.menc hg4.sub hr3), hr4⟩
      · rintro f w5 ⟨early_1, late_1, v5, v6, σ4, g, hY5, rfl, hS5, hsub1, hr5, hr6⟩
        replace hP := hK5 early_1 late_1 hY5
        obtain ⟨a5, cap5, rfl⟩ := hr5.shape
        obtain ⟨a6, cap6, rfl⟩ := hr6.shape
        refine seq_reg ?_
        obtain ⟨Y6, hK6, hc5⟩ := hP
        refine o_call (args := []) rfl Try.call14 (Calls.mono (w_data_Ids hS5.view hc5) ?_)
        rintro _ w6 ⟨r5_, v7, rfl, hg5, hl1, ho1, hY6⟩
        refine ⟨_, rfl, ?_⟩
        have hS6 := hS5.growAdd hg5 (o := vec v7 9 1 r5_.length ((r5_).flatMap encTx)) ho1
        replace hP := hK6 r5_ hY6
        refine o_assign (v := v7) rfl ?_
        refine wpList_nil ?_
        refine then_n ?_
        refine wp_seq ?_
        refine seq_reg ?_
        refine o_assign (v := (.int .i64 (0 : Int))) rfl ?_
        refine wpList_nil ?_
        refine then_n ?_
        refine wp_block ?_
        refine lp_loop1 (fun i_2 f z => ∃ (σ5 : Hv) (g : Fr), f = (upd (upd (upd (upd (upd g 7 (.slice a2 r2_.length cap2)) 8 (.slice a5 early_1.length cap5)) 9 (.slice a6 late_1.length cap6)) 10 v7) 11 (.int .i64 ((i_2 : Nat) : Int))) ∧ St ⟨w, σ, []⟩ z σ5 [vec v7 9 1 r5_.length ((r5_).flatMap encTx)] ∧ Sub σ4 σ5) hP ⟨σ4, _, (upd_in rfl (upd_in rfl (upd_in rfl (upd_in rfl (upd_in rfl rfl))))), hS6, (Sub.refl _)⟩ ?_
        clear hP
        rintro i_2 Y7 hP f w7 ⟨σ5, g, rfl, hS7, hsub2⟩
        refine wp_seq ?_
        refine seq_reg ?_
        refine o_move (v := (.int .i64 ((i_2 : Nat) : Int))) rfl ?_
        refine o_move (v := v7) rfl ?_
        refine o_len_vec hS7 rfl (i := 0) rfl Try.underlying29 ?_
        have hlen2 : r5_.length ≤ 9223372036854775807 := by have := hl1; unfold Sml at this; omega
        replace hP := hP hlen2
        refine o_lss (r := (decide (((i_2 : Nat) : Int) < ((r5_.length : Nat) : Int)))) rfl rfl rfl ?_
        refine wpList_nil ?_
        refine then_n ?_
        refine if_d (((i_2 : Nat) : Int) < ((r5_.length : Nat) : Int)) rfl (fun ht4 => ?_) (fun ht4 => ?_)
        · replace hP := hP.1 ht4
          refine wp_skip ?_
          refine then_n ?_
          refine wp_seq ?_
          refine wp_block ?_
          refine seq_reg ?_
          refine o_assign (v := (.int .i64 (0 : Int))) rfl ?_
          refine wpList_nil ?_
          refine then_n ?_
          refine wp_block ?_
          refine lp_loop1 (fun k_2 f z => ∃ (σ6 : Hv) (g : Fr), f = (upd (upd (upd (upd (upd (upd g 7 (.slice a2 r2_.length cap2)) 8 (.slice a5 early_1.length cap5)) 9 (.slice a6 late_1.length cap6)) 10 v7) 11 (.int .i64 ((i_2 : Nat) : Int))) 12 (.int .i64 ((k_2 : Nat) : Int))) ∧ St ⟨w, σ, []⟩ z σ6 [vec v7 9 1 r5_.length ((r5_).flatMap encTx)] ∧ Sub σ5 σ6) hP ⟨σ5, _, (upd_in rfl (upd_in rfl (upd_in rfl (upd_in rfl (upd_in rfl (upd_in rfl rfl)))))), hS7, (Sub.refl _)⟩ ?_
          clear hP
          rintro k_2 Y8 hP f w8 ⟨σ6, g, rfl, hS8, hsub3⟩
          refine wp_seq ?_
          refine seq_reg ?_
          refine o_move (v := (.int .i64 ((k_2 : Nat) : Int))) rfl ?_
          refine o_move (v := v7) rfl ?_
          refine o_len_vec hS8 rfl (i := 0) rfl Try.underlying29 ?_
          refine o_lss (r := (decide (((k_2 : Nat) : Int) < ((r5_.length : Nat) : Int)))) rfl rfl rfl ?_
          refine wpList_nil ?_
          refine then_n ?_
          refine if_d (((k_2 : Nat) : Int) < ((r5_.length : Nat) : Int)) rfl (fun ht5 => ?_) (fun ht5 => ?_)
          · replace hP := hP.1 ht5
            refine wp_skip ?_
            refine then_n ?_
            refine wp_seq ?_
            refine wp_block ?_
            refine wp_seq ?_
            refine d_reg (fun z => St ⟨w, σ, []⟩ z σ6 [vec v7 9 1 r5_.length ((r5_).flatMap encTx)]) (by kernel_rfl) rfl rfl ?_
            have hS9 := hS8.drew
            refine d_take (i := 0) (v := (.slice a5 early_1.length cap5)) (l' := #[true, false, false, false, false, false, false, false, false, false, false, false, false, false, false, false, false, false, false, false, false, false, false]) rfl (by kernel_rfl) (by kernel_rfl) (by kernel_rfl) rfl rfl (fun _ _ _ h => h) hS9 (fun w hJ K hK => ?_) ?_
            · refine o_move (v := (.slice a5 early_1.length cap5)) rfl ?_
              exact ⟨rfl, hK⟩
            refine d_take (i := 1) (v := v7) (l' := #[true, true, false, false, false, false, false, false, false, false, false, false, false, false, false, false, false, false, false, false, false, false, false]) rfl (by kernel_rfl) (by kernel_rfl) (by kernel_rfl) rfl rfl (fun _ _ _ h => h) hS9 (fun w hJ K hK => ?_) ?_
            · refine o_move (v := v7) rfl ?_
              exact ⟨rfl, hK⟩
            refine d_take (i := 2) (v := (.int .i64 ((i_2 : Nat) : Int))) (l' := #[true, true, true, false, false, false, false, false, false, false, false, false, false, false, false, false, false, false, false, false, false, false, false]) rfl (by kernel_rfl) (by kernel_rfl) (by kernel_rfl) rfl rfl (fun _ _ _ h => h) hS9 (fun w hJ K hK => ?_) ?_
            · refine o_move (v := (.int .i64 ((i_2 : Nat) : Int))) rfl ?_
              exact ⟨rfl, hK⟩
            obtain ⟨x1_, hx1⟩ := getq (l := r5_) (k := i_2) (by have := ht4; omega)
            replace hP := hP x1_ hx1
            obtain ⟨g1, cp1, hv1⟩ := vec_posv (hS9.get (i := 0) rfl) (lt_of_getq hx1)
            refine d_take (i := 3) (v := (.pointer (some ⟨g1, i_2 * 1, none⟩))) (l' := #[true, true, true, true, false, false, false, false, false, false, false, false, false, false, false, false, false, false, false, false, false, false, false]) rfl (by kernel_rfl) (by kernel_rfl) (by kernel_rfl) rfl rfl (fun _ _ _ h => h) hS9 (fun w hJ K hK => ?_) ?_
            · refine o_iaddr_slice (k := i_2) (a' := ⟨g1, i_2 * 1, none⟩) hv1 rfl rfl (lt_of_getq hx1) Try.underlying29 Try.sizeOf9 (by simp [addr_lit]) ?_
              exact ⟨rfl, hK⟩
            refine d_take (i := 4) (v := (.string x1_)) (l' := #[true, true, true, true, true, false, false, false, false, false, false, false, false, false, false, false, false, false, false, false, false, false, false]) rfl (by kernel_rfl) (by kernel_rfl) (by kernel_rfl) rfl rfl (fun _ _ _ h => h) hS9 (fun w hJ K hK => ?_) ?_
            · refine o_load (v := (.string x1_)) rfl Try.isAgg9 (vec_cellv encTx_len (j := 0) hv1 (hJ.get (i := 0) rfl) hx1 rfl) ?_
              exact ⟨rfl, hK⟩
            refine d_take (i := 5) (v := v7) (l' := #[true, true, true, true, true, true, false, false, false, false, false, false, false, false, false, false, false, false, false, false, false, false, false]) rfl (by kernel_rfl) (by kernel_rfl) (by kernel_rfl) rfl rfl (fun _ _ _ h => h) hS9 (fun w hJ K hK => ?_) ?_
            · refine o_move (v := v7) rfl ?_
              exact ⟨rfl, hK⟩
            refine d_take (i := 6) (v := (.int .i64 ((k_2 : Nat) : Int))) (l' := #[true, true, true, true, true, true, true, false, false, false, false, false, false, false, false, false, false, false, false, false, false, false, false]) rfl (by kernel_rfl) (by kernel_rfl) (by kernel_rfl) rfl rfl (fun _ _ _ h => h) hS9 (fun w hJ K hK => ?_) ?_
            · refine o_move (v := (.int .i64 ((k_2 : Nat) : Int))) rfl ?_
              exact ⟨rfl, hK⟩
            obtain ⟨x2_, hx2⟩ := getq (l := r5_) (k := k_2) (by have := ht5; omega)
            replace hP := hP x2_ hx2
            obtain ⟨g2, cp2, hv2⟩ := vec_posv (hS9.get (i := 0) rfl) (lt_of_getq hx2)
            refine d_take (i := 7) (v := (.pointer (some ⟨g2, k_2 * 1, none⟩))) (l' := #[true, true, true, true, true, true, true, true, false, false, false, false, false, false, false, false, false, false, false, false, false, false, false]) rfl (by kernel_rfl) (by kernel_rfl) (by kernel_rfl) rfl rfl (fun _ _ _ h => h) hS9 (fun w hJ K hK => ?_) ?_
            · refine o_iaddr_slice (k := k_2) (a' := ⟨g2, k_2 * 1, none⟩) hv2 rfl rfl (lt_of_getq hx2) Try.underlying29 Try.sizeOf9 (by simp [addr_lit]) ?_
              exact ⟨rfl, hK⟩
            refine d_take (i := 8) (v := (.string x2_)) (l' := #[true, true, true, true, true, true, true, true, true, false, false, false, false, false, false, false, false, false, false, false, false, false, false]) rfl (by kernel_rfl) (by kernel_rfl) (by kernel_rfl) rfl rfl (fun _ _ _ h => h) hS9 (fun w hJ K hK => ?_) ?_
            · refine o_load (v := (.string x2_)) rfl Try.isAgg9 (vec_cellv encTx_len (j := 0) hv2 (hJ.get (i := 0) rfl) hx2 rfl) ?_
              exact ⟨rfl, hK⟩
            refine d_one (i := 9) (by kernel_rfl) rfl (l' := #[true, true, true, true, true, true, true, true, true, true, false, false, false, false, false, false, false, false, false, false, false, false, false]) rfl ?_
            obtain ⟨Y9, hK7, hc6⟩ := hP
            refine o_call (args := [(.slice a5 early_1.length cap5), (.string x1_), (.string x2_)]) rfl Try.call15 (Calls.mono (w_identity_Same early_1 x1_ x2_ (.slice a5 early_1.length cap5) hS9.view (RSl.menc (Sub.trans hsub2 hsub3) hr5) hc6) ?_)
            rintro _ w9 ⟨r6_, rfl, hg6, hY7⟩
            refine ⟨_, rfl, ?_⟩
            have hS10 := hS9.grow hg6
            replace hP := hK7 r6_ hY7
            refine wpList_nil ?_
            refine ⟨rfl, hS10, ?_⟩
            rcases Bool.eq_false_or_eq_true (r6_) with hb1 | hb1
            · replace hP := hP.1 hb1
              refine d_take (i := 10) (v := (.bool true)) (l' := #[true, true, true, true, true, true, true, true, true, true, true, false, false, false, false, false, false, false, false, false, false, false, false]) rfl (by kernel_rfl) (by kernel_rfl) (by kernel_rfl) rfl rfl (fun _ _ _ h => h) hS10 (fun w hJ K hK => ?_) ?_
              · refine o_move (v := (.bool true)) (congrArg Value.bool hb1) ?_
                exact ⟨rfl, hK⟩
              refine d_take (i := 11) (v := (.slice a6 late_1.length cap6)) (l' := #[true, true, true, true, true, true, true, true, true, true, true, true, false, false, false, false, false, false, false, false, false, false, false]) rfl (by kernel_rfl) (by kernel_rfl) (by kernel_rfl) rfl rfl (fun _ _ _ h => h) hS10 (fun w hJ K hK => ?_) ?_
              · refine o_on rfl rfl ?_
                refine o_move (v := (.slice a6 late_1.length cap6)) rfl ?_
                exact ⟨rfl, hK⟩
              refine d_take (i := 12) (v := v7) (l' := #[true, true, true, true, true, true, true, true, true, true, true, true, true, false, false, false, false, false, false, false, false, false, false]) rfl (by kernel_rfl) (by kernel_rfl) (by kernel_rfl) rfl rfl (fun _ _ _ h => h) hS10 (fun w hJ K hK => ?_) ?_
              · refine o_on rfl rfl ?_
                refine o_move (v := v7) rfl ?_
                exact ⟨rfl, hK⟩
              refine d_take (i := 13) (v := (.int .i64 ((i_2 : Nat) : Int))) (l' := #[true, true, true, true, true, true, true, true, true, true, true, true, true, true, false, false, false, false, false, false, false, false, false]) rfl (by kernel_rfl) (by kernel_rfl) (by kernel_rfl) rfl rfl (fun _ _ _ h => h) hS10 (fun w hJ K hK => ?_) ?_
              · refine o_on rfl rfl ?_
                refine o_move (v := (.int .i64 ((i_2 : Nat) : Int))) rfl ?_
                exact ⟨rfl, hK⟩
              obtain ⟨g3, cp3, hv3⟩ := vec_posv (hS10.get (i := 0) rfl) (lt_of_getq hx1)
              refine d_take (i := 14) (v := (.pointer (some ⟨g3, i_2 * 1, none⟩))) (l' := #[true, true, true, true, true, true, true, true, true, true, true, true, true, true, true, false, false, false, false, false, false, false, false]) rfl (by kernel_rfl) (by kernel_rfl) (by kernel_rfl) rfl rfl (fun _ _ _ h => h) hS10 (fun w hJ K hK => ?_) ?_
              · refine o_on rfl rfl ?_
                refine o_iaddr_slice (k := i_2) (a' := ⟨g3, i_2 * 1, none⟩) hv3 rfl rfl (lt_of_getq hx1) Try.underlying29 Try.sizeOf9 (by simp [addr_lit]) ?_
                exact ⟨rfl, hK⟩
              refine d_take (i := 15) (v := (.string x1_)) (l' := #[true, true, true, true, true, true, true, true, true, true, true, true, true, true, true, true, false, false, false, false, false, false, false]) rfl (by kernel_rfl) (by kernel_rfl) (by kernel_rfl) rfl rfl (fun _ _ _ h => h) hS10 (fun w hJ K hK => ?_) ?_
              · refine o_on rfl rfl ?_
                refine o_load (v := (.string x1_)) rfl Try.isAgg9 (vec_cellv encTx_len (j := 0) hv3 (hJ.get (i := 0) rfl) hx1 rfl) ?_
                exact ⟨rfl, hK⟩
              refine d_take (i := 16) (v := v7) (l' := #[true, true, true, true, true, true, true, true, true, true, true, true, true, true, true, true, true, false, false, false, false, false, false]) rfl (by kernel_rfl) (by kernel_rfl) (by kernel_rfl) rfl rfl (fun _ _ _ h => h) hS10 (fun w hJ K hK => ?_) ?_
              · refine o_on rfl rfl ?_
                refine o_move (v := v7) rfl ?_
                exact ⟨rfl, hK⟩
              refine d_take (i := 17) (v := (.int .i64 ((k_2 : Nat) : Int))) (l' := #[true, true, true, true, true, true, true, true, true, true, true, true, true, true, true, true, true, true, false, false, false, false, false]) rfl (by kernel_rfl) (by kernel_rfl) (by kernel_rfl) rfl rfl (fun _ _ _ h => h) hS10 (fun w hJ K hK => ?_) ?_
              · refine o_on rfl rfl ?_
                refine o_move (v := (.int .i64 ((k_2 : Nat) : Int))) rfl ?_
                exact ⟨rfl, hK⟩
              obtain ⟨g4, cp4, hv4⟩ := vec_posv (hS10.get (i := 0) rfl) (lt_of_getq hx2)
              refine d_take (i := 18) (v := (.pointer (some ⟨g4, k_2 * 1, none⟩))) (l' := #[true, true, true, true, true, true, true, true, true, true, true, true, true, true, true, true, true, true, true, false, false, false, false]) rfl (by kernel_rfl) (by kernel_rfl) (by kernel_rfl) rfl rfl (fun _ _ _ h => h) hS10 (fun w hJ K hK => ?_) ?_
              · refine o_on rfl rfl ?_
                refine o_iaddr_slice (k := k_2) (a' := ⟨g4, k_2 * 1, none⟩) hv4 rfl rfl (lt_of_getq hx2) Try.underlying29 Try.sizeOf9 (by simp [addr_lit]) ?_
                exact ⟨rfl, hK⟩
              refine d_take (i := 19) (v := (.string x2_)) (l' := #[true, true, true, true, true, true, true, true, true, true, true, true, true, true, true, true, true, true, true, true, false, false, false]) rfl (by kernel_rfl) (by kernel_rfl) (by kernel_rfl) rfl rfl (fun _ _ _ h => h) hS10 (fun w hJ K hK => ?_) ?_
              · refine o_on rfl rfl ?_
                refine o_load (v := (.string x2_)) rfl Try.isAgg9 (vec_cellv encTx_len (j := 0) hv4 (hJ.get (i := 0) rfl) hx2 rfl) ?_
                exact ⟨rfl, hK⟩
              refine d_one (i := 20) (by kernel_rfl) rfl (l' := #[true, true, true, true, true, true, true, true, true, true, true, true, true, true, true, true, true, true, true, true, true, false, false]) rfl ?_
              refine o_on rfl rfl ?_
              obtain ⟨Y10, hK8, hc7⟩ := hP
              refine o_call (args := [(.slice a6 late_1.length cap6), (.string x1_), (.string x2_)]) rfl Try.call15 (Calls.mono (w_identity_Same late_1 x1_ x2_ (.slice a6 late_1.length cap6) hS10.view (RSl.menc (Sub.trans hsub2 hsub3) hr6) hc7) ?_)
              rintro _ w10 ⟨r7_, rfl, hg7, hY8⟩
              refine ⟨_, rfl, ?_⟩
              have hS11 := hS10.grow hg7
              replace hP := hK8 r7_ hY8
              refine wpList_nil ?_
              refine ⟨rfl, hS11, ?_⟩
              refine d_take (i := 21) (v := (.bool (!r7_))) (l' := #[true, true, true, true, true, true, true, true, true, true, true, true, true, true, true, true, true, true, true, true, true, true, false]) rfl (by kernel_rfl) (by kernel_rfl) (by kernel_rfl) rfl rfl (fun _ _ _ h => h) hS11 (fun w hJ K hK => ?_) ?_
              · refine o_on rfl rfl ?_
                refine o_not (r := (!r7_)) rfl rfl ?_
                exact ⟨rfl, hK⟩
              refine d_take (i := 22) (v := (.bool (!r7_))) (l' := #[true, true, true, true, true, true, true, true, true, true, true, true, true, true, true, true, true, true, true, true, true, true, true]) rfl (by kernel_rfl) (by kernel_rfl) (by kernel_rfl) rfl rfl (fun _ _ _ h => h) hS11 (fun w hJ K hK => ?_) ?_
              · refine o_pick_t (v := (.bool (!r7_))) rfl rfl ?_
                exact ⟨rfl, hK⟩
              refine d_done (by kernel_rfl) ?_
              refine then_n ?_
              refine if_nb rfl (fun ht6 => ?_) (fun ht6 => ?_)
              · replace hP := hP.2 (by simp [ht6])
                refine seq_reg ?_
                refine o_assign (v := (.bool false)) rfl ?_
                refine wpList_nil ?_
                refine then_n ?_
                refine wp_ret ?_
                refine blk_r ?_
                refine then_r ?_
                refine then_r ?_
                refine blk_r ?_
                refine blk_r ?_
                refine then_r ?_
                refine then_r ?_
                refine blk_r ?_
                refine then_r ?_
                refine ret1 rfl (show ev _ _ _ = (.bool false) from rfl) ?_
                exact ⟨false, rfl, hS11.done.forget, hP⟩
              · replace hP := hP.1 ht6
                refine wp_skip ?_
                refine blk_n ?_
                refine then_n ?_
                refine one_reg ?_
                refine o_move (v := (.int .i64 ((k_2 : Nat) : Int))) rfl ?_
                refine o_add (r := ((k_2 + 1 : Nat) : Int)) rfl rfl (nw (by omega) (by omega) (by have := hlen2; omega)) ?_
                refine o_assign (v := (.int .i64 ((k_2 + 1 : Nat) : Int))) rfl ?_
                refine wpList_nil ?_
                refine then_n ?_
                exact ⟨k_2 + 1, _, rfl, hP, σ6, _, (upd_in rfl (upd_in rfl (upd_in rfl (upd_in rfl (upd_in rfl (upd_in rfl rfl)))))), hS11, hsub3⟩
            · replace hP := hP.2 (by simp [hb1])
              refine d_take (i := 10) (v := (.bool false)) (l' := #[true, true, true, true, true, true, true, true, true, true, true, false, false, false, false, false, false, false, false, false, false, false, false]) rfl (by kernel_rfl) (by kernel_rfl) (by kernel_rfl) rfl rfl (fun _ _ _ h => h) hS10 (fun w hJ K hK => ?_) ?_
              · refine o_move (v := (.bool false)) (congrArg Value.bool hb1) ?_
                exact ⟨rfl, hK⟩
              refine d_take (i := 11) (v := undef) (l' := #[true, true, true, true, true, true, true, true, true, true, true, true, false, false, false, false, false, false, false, false, false, false, false]) rfl (by kernel_rfl) (by kernel_rfl) (by kernel_rfl) rfl rfl (fun _ _ _ h => h) hS10 (fun w hJ K hK => ?_) ?_
              · refine o_off rfl rfl ?_
                exact ⟨rfl, hK⟩
              refine d_take (i := 12) (v := undef) (l' := #[true, true, true, true, true, true, true, true, true, true, true, true, true, false, false, false, false, false, false, false, false, false, false]) rfl (by kernel_rfl) (by kernel_rfl) (by kernel_rfl) rfl rfl (fun _ _ _ h => h) hS10 (fun w hJ K hK => ?_) ?_
              · refine o_off rfl rfl ?_
                exact ⟨rfl, hK⟩
              refine d_take (i := 13) (v := undef) (l' := #[true, true, true, true, true, true, true, true, true, true, true, true, true, true, false, false, false, false, false, false, false, false, false]) rfl (by kernel_rfl) (by kernel_rfl) (by kernel_rfl) rfl rfl (fun _ _ _ h => h) hS10 (fun w hJ K hK => ?_) ?_
              · refine o_off rfl rfl ?_
                exact ⟨rfl, hK⟩
              refine d_take (i := 14) (v := undef) (l' := #[true, true, true, true, true, true, true, true, true, true, true, true, true, true, true, false, false, false, false, false, false, false, false]) rfl (by kernel_rfl) (by kernel_rfl) (by kernel_rfl) rfl rfl (fun _ _ _ h => h) hS10 (fun w hJ K hK => ?_) ?_
              · refine o_off rfl rfl ?_
                exact ⟨rfl, hK⟩
              refine d_take (i := 15) (v := undef) (l' := #[true, true, true, true, true, true, true, true, true, true, true, true, true, true, true, true, false, false, false, false, false, false, false]) rfl (by kernel_rfl) (by kernel_rfl) (by kernel_rfl) rfl rfl (fun _ _ _ h => h) hS10 (fun w hJ K hK => ?_) ?_
              · refine o_off rfl rfl ?_
                exact ⟨rfl, hK⟩
              refine d_take (i := 16) (v := undef) (l' := #[true, true, true, true, true, true, true, true, true, true, true, true, true, true, true, true, true, false, false, false, false, false, false]) rfl (by kernel_rfl) (by kernel_rfl) (by kernel_rfl) rfl rfl (fun _ _ _ h => h) hS10 (fun w hJ K hK => ?_) ?_
              · refine o_off rfl rfl ?_
                exact ⟨rfl, hK⟩
              refine d_take (i := 17) (v := undef) (l' := #[true, true, true, true, true, true, true, true, true, true, true, true, true, true, true, true, true, true, false, false, false, false, false]) rfl (by kernel_rfl) (by kernel_rfl) (by kernel_rfl) rfl rfl (fun _ _ _ h => h) hS10 (fun w hJ K hK => ?_) ?_
              · refine o_off rfl rfl ?_
                exact ⟨rfl, hK⟩
              refine d_take (i := 18) (v := undef) (l' := #[true, true, true, true, true, true, true, true, true, true, true, true, true, true, true, true, true, true, true, false, false, false, false]) rfl (by kernel_rfl) (by kernel_rfl) (by kernel_rfl) rfl rfl (fun _ _ _ h => h) hS10 (fun w hJ K hK => ?_) ?_
              · refine o_off rfl rfl ?_
                exact ⟨rfl, hK⟩
              refine d_take (i := 19) (v := undef) (l' := #[true, true, true, true, true, true, true, true, true, true, true, true, true, true, true, true, true, true, true, true, false, false, false]) rfl (by kernel_rfl) (by kernel_rfl) (by kernel_rfl) rfl rfl (fun _ _ _ h => h) hS10 (fun w hJ K hK => ?_) ?_
              · refine o_off rfl rfl ?_
                exact ⟨rfl, hK⟩
              refine d_take (i := 20) (v := undef) (l' := #[true, true, true, true, true, true, true, true, true, true, true, true, true, true, true, true, true, true, true, true, true, false, false]) rfl (by kernel_rfl) (by kernel_rfl) (by kernel_rfl) rfl rfl (fun _ _ _ h => h) hS10 (fun w hJ K hK => ?_) ?_
              · refine o_off rfl rfl ?_
                exact ⟨rfl, hK⟩
              refine d_take (i := 21) (v := undef) (l' := #[true, true, true, true, true, true, true, true, true, true, true, true, true, true, true, true, true, true, true, true, true, true, false]) rfl (by kernel_rfl) (by kernel_rfl) (by kernel_rfl) rfl rfl (fun _ _ _ h => h) hS10 (fun w hJ K hK => ?_) ?_
              · refine o_off rfl rfl ?_
                exact ⟨rfl, hK⟩
              refine d_take (i := 22) (v := (.bool false)) (l' := #[true, true, true, true, true, true, true, true, true, true, true, true, true, true, true, true, true, true, true, true, true, true, true]) rfl (by kernel_rfl) (by kernel_rfl) (by kernel_rfl) rfl rfl (fun _ _ _ h => h) hS10 (fun w hJ K hK => ?_) ?_
              · refine o_pick_f (v := (.bool false)) rfl rfl ?_
                exact ⟨rfl, hK⟩
              refine d_done (by kernel_rfl) ?_
              refine then_n ?_
              refine if_f rfl ?_
              refine wp_skip ?_
              refine blk_n ?_
              refine then_n ?_
              refine one_reg ?_
              refine o_move (v := (.int .i64 ((k_2 : Nat) : Int))) rfl ?_
              refine o_add (r := ((k_2 + 1 : Nat) : Int)) rfl rfl (nw (by omega) (by omega) (by have := hlen2; omega)) ?_
              refine o_assign (v := (.int .i64 ((k_2 + 1 : Nat) : Int))) rfl ?_
              refine wpList_nil ?_
              refine then_n ?_
              exact ⟨k_2 + 1, _, rfl, hP, σ6, _, (upd_in rfl (upd_in rfl (upd_in rfl (upd_in rfl (upd_in rfl (upd_in rfl rfl)))))), hS10, hsub3⟩
          · replace hP := hP.2 ht5
            refine wp_exit ?_
            refine then_e ?_
            refine then_e ?_
            refine blk_hit ?_
            refine blk_n ?_
            refine then_n ?_
            refine one_reg ?_
            refine o_move (v := (.int .i64 ((i_2 : Nat) : Int))) rfl ?_
            refine o_add (r := ((i_2 + 1 : Nat) : Int)) rfl rfl (nw (by omega) (by omega) (by have := hlen2; omega)) ?_
            refine o_assign (v := (.int .i64 ((i_2 + 1 : Nat) : Int))) rfl ?_
            refine wpList_nil ?_
            refine then_n ?_
            exact ⟨i_2 + 1, _, rfl, hP, σ6, _, (upd_in rfl (upd_in rfl (upd_in rfl (upd_in rfl (upd_in rfl rfl))))), hS8, (Sub.trans hsub2 hsub3)⟩
        · replace hP := hP.2 ht4
          refine wp_exit ?_
          refine then_e ?_
          refine then_e ?_
          refine blk_hit ?_
          refine then_n ?_
          refine seq_reg ?_
          refine o_move (v := (.slice a5 early_1.length cap5)) rfl ?_
          refine o_len_slice rfl Try.underlying24 ?_
          have hlen4 := RSl.len63 hr5
          replace hP := hP hlen4
          refine o_move (v := (.slice a6 late_1.length cap6)) rfl ?_
          refine o_len_slice rfl Try.underlying24 ?_
          have hlen5 := RSl.len63 hr6
          replace hP := hP hlen5
          refine o_leq (r := (decide (((early_1.length : Nat) : Int) ≤ ((late_1.length : Nat) : Int)))) rfl rfl rfl ?_
          by_cases hb2 : ((early_1.length : Nat) : Int) ≤ ((late_1.length : Nat) : Int)
          · replace hP := hP.1 hb2
            refine o_move (v := (.bool true)) (congrArg Value.bool (decide_eq_true hb2)) ?_
            refine o_on rfl rfl ?_
            refine o_move (v := (.slice a6 late_1.length cap6)) rfl ?_
            refine o_on rfl rfl ?_
            refine o_len_slice rfl Try.underlying24 ?_
            refine o_on rfl rfl ?_
            refine o_move (v := (.slice a2 r2_.length cap2)) rfl ?_
            refine o_on rfl rfl ?_
            refine o_len_slice rfl Try.underlying24 ?_
            have hlen7 := RSl.len63 hr2
            replace hP := hP hlen7
            refine o_on rfl rfl ?_
            refine o_leq (r := (decide (((late_1.length : Nat) : Int) ≤ ((r2_.length : Nat) : Int)))) rfl rfl rfl ?_
            refine o_pick_t (v := (.bool (decide (((late_1.length : Nat) : Int) ≤ ((r2_.length : Nat) : Int))))) rfl rfl ?_
            refine o_assign (v := (.bool (decide (((late_1.length : Nat) : Int) ≤ ((r2_.length : Nat) : Int))))) rfl ?_
            refine wpList_nil ?_
            refine then_n ?_
            refine wp_ret ?_
            refine ret1 rfl (show ev _ _ _ = (.bool (decide (((late_1.length : Nat) : Int) ≤ ((r2_.length : Nat) : Int)))) from rfl) ?_
            exact ⟨(decide (((late_1.length : Nat) : Int) ≤ ((r2_.length : Nat) : Int))), rfl, hS7.done.forget, hP⟩
          · replace hP := hP.2 hb2
            refine o_move (v := (.bool false)) (congrArg Value.bool (decide_eq_false hb2)) ?_
            refine o_off rfl rfl ?_
            refine o_off rfl rfl ?_
            refine o_off rfl rfl ?_
            refine o_off rfl rfl ?_
            refine o_off rfl rfl ?_
            refine o_pick_f (v := (.bool false)) rfl rfl ?_
            refine o_assign (v := (.bool false)) rfl ?_
            refine wpList_nil ?_
            refine then_n ?_
            refine wp_ret ?_
            refine ret1 rfl (show ev _ _ _ = (.bool false) from rfl) ?_
            exact ⟨false, rfl, hS7.done.forget, hP⟩

end Go.Proofs.Ytehmnkholidanaa
