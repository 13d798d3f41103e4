/- A call does what its plain meaning says, and leaves the memory that was there as it was: law26_IdentityParts. -/
import Derived.Test.YtehmnkholidanaaRows
import Derived.Test.YtehmnkholidanaaFlLift
import Derived.Test.YtehmnkholidanaaPuLParts
import Derived.KernelRfl
import Derived.Test.YtehmnkholidanaaLwB
namespace Go.Proofs.Ytehmnkholidanaa
open Go Go.RowKit Go.Fl
set_option maxHeartbeats 2000000 in
theorem w_law26_IdentityParts {σ : Hv} {w : World} (l_p : (List UInt8)) (v1 : Value) {K : Bool → Prop} (hV : View σ w) (hr1 : RSl 1 RU8 σ v1 l_p) (hP : P_law26_IdentityParts l_p K) :
    Calls Try.prog 5 #[v1] w (fun e w1 => ∃ (r1 : Bool), e = .returned (.bool (r1)) ∧ Grow [] σ w σ w1 ∧ K r1) := by
  unfold P_law26_IdentityParts at hP
  obtain ⟨a1, cap1, rfl⟩ := hr1.shape
  refine enter Try.func5 rfl rfl rfl ?_
  have hS := St.start hV
  refine seq_reg ?_
  refine o_assign (v := (.bool false)) rfl ?_
  refine wpList_nil ?_
  refine then_n ?_
  refine wp_seq ?_
  refine seq_reg ?_
  obtain ⟨Y1, hK1, hc1⟩ := hP
  refine o_call (args := []) rfl Try.call11 (Calls.mono (w_law26_awake hS.view hc1) ?_)
  rintro _ w1 ⟨r1_, rfl, hg1, hY1⟩
  refine ⟨_, rfl, ?_⟩
  have hS1 := hS.grow hg1
  replace hP := hK1 r1_ hY1
  refine o_not (r := (!r1_)) rfl rfl ?_
  refine wpList_nil ?_
  refine then_n ?_
  refine if_nb rfl (fun ht1 => ?_) (fun ht1 => ?_)
  · replace hP := hP.2 (by simp [ht1])
    refine seq_reg ?_
    refine o_assign (v := (.bool false)) rfl ?_
    refine wpList_nil ?_
    refine then_n ?_
    refine wp_ret ?_
    refine then_r ?_
    refine ret1 rfl (show ev _ _ _ = (.bool false) from rfl) ?_
    exact ⟨false, rfl, hS1.done.forget, hP⟩
  · replace hP := hP.1 ht1
    refine wp_skip ?_
    refine then_n ?_
    refine wp_seq ?_
    refine seq_reg ?_
    refine o_move (v := (.slice a1 l_p.length cap1)) rfl ?_
    refine o_len_slice rfl Try.underlying22 ?_
    have hlen1 := RSl.len63 hr1
    replace hP := hP hlen1
    refine o_gtr (r := (decide ((60 : Int) < ((l_p.length : Nat) : Int)))) rfl rfl rfl ?_
    refine wpList_nil ?_
    refine then_n ?_
    refine if_d ((60 : Int) < ((l_p.length : Nat) : Int)) rfl (fun ht2 => ?_) (fun ht2 => ?_)
    · replace hP := hP.1 ht2
      refine seq_reg ?_
      refine o_assign (v := (.bool true)) rfl ?_
      refine wpList_nil ?_
      refine then_n ?_
      refine wp_ret ?_
      refine then_r ?_
      refine ret1 rfl (show ev _ _ _ = (.bool true) from rfl) ?_
      exact ⟨true, rfl, hS1.done.forget, hP⟩
    · replace hP := hP.2 ht2
      refine wp_skip ?_
      refine then_n ?_
      refine seq_reg ?_
      refine o_move (v := (.slice a1 l_p.length cap1)) rfl ?_
      obtain ⟨Y2, hK2, hc2⟩ := hP
      refine o_call (args := [(.slice a1 l_p.length cap1), (.bool true)]) rfl Try.call12 (Calls.mono (w_data_Links l_p true (.slice a1 l_p.length cap1) hS1.view hr1 hc2) ?_)
      rintro _ w2 ⟨r2_, v2, σ1, rfl, hg2, hr2, hY2⟩
      refine ⟨_, rfl, ?_⟩
      have hS2 := hS1.grow hg2
      replace hP := hK2 r2_ hY2
      obtain ⟨a2, cap2, rfl⟩ := hr2.shape
      refine o_assign (v := (.slice a2 r2_.length cap2)) rfl ?_
      refine wpList_nil ?_
      refine then_n ?_
      refine seq_reg ?_
      obtain ⟨Y3, hK3, hc3⟩ := hP
      refine o_call (args := []) rfl Try.call14 (Calls.mono (w_data_Ids hS2.view hc3) ?_)
      rintro _ w3 ⟨r3_, v3, rfl, hg3, hl1, ho1, hY3⟩
      refine ⟨_, rfl, ?_⟩
      have hS3 := hS2.growAdd hg3 (o := vec v3 9 1 r3_.length ((r3_).flatMap encTx)) ho1
      replace hP := hK3 r3_ hY3
      refine o_assign (v := v3) rfl ?_
      refine wpList_nil ?_
      refine then_n ?_
      refine wp_seq ?_
      refine seq_reg ?_
      refine o_assign (v := (.int .i64 (0 : Int))) rfl ?_
      refine wpList_nil ?_
      refine then_n ?_
      refine wp_block ?_
      refine lp_loop1 (fun i_2 f z => ∃ (σ2 : Hv) (g : Fr), f = (upd (upd (upd g 3 (.slice a2 r2_.length cap2)) 4 v3) 5 (.int .i64 ((i_2 : Nat) : Int))) ∧ St ⟨w, σ, []⟩ z σ2 [vec v3 9 1 r3_.length ((r3_).flatMap encTx)] ∧ Sub σ1 σ2) hP ⟨σ1, _, (upd_in rfl (upd_in rfl (upd_in rfl rfl))), hS3, (Sub.refl _)⟩ ?_
      clear hP
      rintro i_2 Y4 hP f w4 ⟨σ2, g, rfl, hS4, hsub1⟩
      refine wp_seq ?_
      refine seq_reg ?_
      refine o_move (v := (.int .i64 ((i_2 : Nat) : Int))) rfl ?_
      refine o_move (v := v3) rfl ?_
      refine o_len_vec hS4 rfl (i := 0) rfl Try.underlying29 ?_
      have hlen2 : r3_.length ≤ 9223372036854775807 := by have := hl1; unfold Sml at this; omega
      replace hP := hP hlen2
      refine o_lss (r := (decide (((i_2 : Nat) : Int) < ((r3_.length : Nat) : Int)))) rfl rfl rfl ?_
      refine wpList_nil ?_
      refine then_n ?_
      refine if_d (((i_2 : Nat) : Int) < ((r3_.length : Nat) : Int)) rfl (fun ht3 => ?_) (fun ht3 => ?_)
      · replace hP := hP.1 ht3
        refine wp_skip ?_
        refine then_n ?_
        refine wp_seq ?_
        refine wp_block ?_
        refine seq_reg ?_
        refine o_move (v := (.slice a2 r2_.length cap2)) rfl ?_
        refine o_move (v := v3) rfl ?_
        refine o_move (v := (.int .i64 ((i_2 : Nat) : Int))) rfl ?_
        obtain ⟨x1_, hx1⟩ := getq (l := r3_) (k := i_2) (by have := ht3; omega)
        replace hP := hP x1_ hx1
        obtain ⟨g1, cp1, hv1⟩ := vec_posv (hS4.get (i := 0) rfl) (lt_of_getq hx1)
        refine o_iaddr_slice (k := i_2) (a' := ⟨g1, i_2 * 1, none⟩) hv1 rfl rfl (lt_of_getq hx1) Try.underlying29 Try.sizeOf9 (by simp [addr_lit]) ?_
        refine o_load (v := (.string x1_)) rfl Try.isAgg9 (vec_cellv encTx_len (j := 0) hv1 (hS4.get (i := 0) rfl) hx1 rfl) ?_
        obtain ⟨Y5, hK4, hc4⟩ := hP
        refine o_call (args := [(.slice a2 r2_.length cap2), (.string x1_)]) rfl Try.call18 (Calls.mono (w_identity_Members r2_ x1_ (.slice a2 r2_.length cap2) hS4.view (RSl.menc hsub1 hr2) hc4) ?_)
        rintro _ w5 ⟨r4_, v4, σ3, rfl, hg4, hr4, hY4⟩
        refine ⟨_, rfl, ?_⟩
        have hS5 := hS4.grow hg4
        replace hP := hK4 r4_ hY4
        obtain ⟨a3, cap3, rfl⟩ := hr4.shape
        refine o_assign (v := (.slice a3 r4_.length cap3)) rfl ?_
        refine wpList_nil ?_
        refine then_n ?_
        refine seq_reg ?_
        refine o_assign (v := (.bool false)) rfl ?_
        refine wpList_nil ?_
        refine then_n ?_
        refine wp_seq ?_
        refine seq_reg ?_
        refine o_assign (v := (.int .i64 (0 : Int))) rfl ?_
        refine wpList_nil ?_
        refine then_n ?_
        refine wp_block ?_
        refine lp_loop2 (fun found_2 k_2 f z => ∃ (σ4 : Hv) (g : Fr), f = (upd (upd (upd (upd (upd (upd g 3 (.slice a2 r2_.length cap2)) 4 v3) 5 (.int .i64 ((i_2 : Nat) : Int))) 6 (.slice a3 r4_.length cap3)) 7 (.bool (found_2))) 8 (.int .i64 ((k_2 : Nat) : Int))) ∧ St ⟨w, σ, []⟩ z σ4 [vec v3 9 1 r3_.length ((r3_).flatMap encTx)] ∧ Sub σ3 σ4) hP ⟨σ3, _, (upd_in rfl (upd_in rfl (upd_in rfl (upd_in rfl (upd_in rfl (upd_in rfl rfl)))))), hS5, (Sub.refl _)⟩ ?_
        clear hP
        rintro found_2 k_2 Y6 hP f w6 ⟨σ4, g, rfl, hS6, hsub2⟩
        refine wp_seq ?_
        refine seq_reg ?_
        refine o_move (v := (.int .i64 ((k_2 : Nat) : Int))) rfl ?_
        refine o_move (v := (.slice a3 r4_.length cap3)) rfl ?_
        refine o_len_slice rfl Try.underlying29 ?_
        have hlen3 := RSl.len63 hr4
        replace hP := hP hlen3
        refine o_lss (r := (decide (((k_2 : Nat) : Int) < ((r4_.length : Nat) : Int)))) rfl rfl rfl ?_
        refine wpList_nil ?_
        refine then_n ?_
        refine if_d (((k_2 : Nat) : Int) < ((r4_.length : Nat) : Int)) rfl (fun ht4 => ?_) (fun ht4 => ?_)
        · replace hP := hP.1 ht4
          refine wp_skip ?_
          refine then_n ?_
          refine wp_seq ?_
          refine wp_block ?_
          obtain ⟨Y7, hK5, hP⟩ := hP
          refine cut (fun f z => ∃ (found_3 : Bool) (σ5 : Hv) (g : Fr), Y7 found_3 ∧ f = (upd (upd (upd (upd (upd (upd g 3 (.slice a2 r2_.length cap2)) 4 v3) 5 (.int .i64 ((i_2 : Nat) : Int))) 6 (.slice a3 r4_.length cap3)) 7 (.bool (found_3))) 8 (.int .i64 ((k_2 : Nat) : Int))) ∧ St ⟨w, σ, []⟩ z σ5 [vec v3 9 1 r3_.length ((r3_).flatMap encTx)] ∧ Sub σ4 σ5) ?_ ?_
          · refine d_reg (fun z => St ⟨w, σ, []⟩ z σ4 [vec v3 9 1 r3_.length ((r3_).flatMap encTx)]) (by kernel_rfl) rfl rfl ?_
            have hS7 := hS6.drew
            refine d_take (i := 0) (v := (.bool (found_2))) (l' := #[true, false, false, false, false, false, false, false, false, false, false, false, false]) rfl (by kernel_rfl) (by kernel_rfl) (by kernel_rfl) rfl rfl (fun _ _ _ h => h) hS7 (fun w hJ K hK => ?_) ?_
            · refine o_move (v := (.bool (found_2))) rfl ?_
              exact ⟨rfl, hK⟩
            rcases Bool.eq_false_or_eq_true (found_2) with hb1 | hb1
            · replace hP := hP.1 hb1
              refine d_take (i := 1) (v := (.bool true)) (l' := #[true, true, false, false, false, false, false, false, false, false, false, false, false]) rfl (by kernel_rfl) (by kernel_rfl) (by kernel_rfl) rfl rfl (fun _ _ _ h => h) hS7 (fun w hJ K hK => ?_) ?_
              · refine o_move (v := (.bool true)) (congrArg Value.bool hb1) ?_
                exact ⟨rfl, hK⟩
              refine d_take (i := 2) (v := undef) (l' := #[true, true, true, false, false, false, false, false, false, false, false, false, false]) rfl (by kernel_rfl) (by kernel_rfl) (by kernel_rfl) rfl rfl (fun _ _ _ h => h) hS7 (fun w hJ K hK => ?_) ?_
              · refine o_off rfl rfl ?_
                exact ⟨rfl, hK⟩
              refine d_take (i := 3) (v := undef) (l' := #[true, true, true, true, false, false, false, false, false, false, false, false, false]) rfl (by kernel_rfl) (by kernel_rfl) (by kernel_rfl) rfl rfl (fun _ _ _ h => h) hS7 (fun w hJ K hK => ?_) ?_
              · refine o_off rfl rfl ?_
                exact ⟨rfl, hK⟩
              refine d_take (i := 4) (v := undef) (l' := #[true, true, true, true, true, false, false, false, false, false, false, false, false]) rfl (by kernel_rfl) (by kernel_rfl) (by kernel_rfl) rfl rfl (fun _ _ _ h => h) hS7 (fun w hJ K hK => ?_) ?_
              · refine o_off rfl rfl ?_
                exact ⟨rfl, hK⟩
              refine d_take (i := 5) (v := undef) (l' := #[true, true, true, true, true, true, false, false, false, false, false, false, false]) rfl (by kernel_rfl) (by kernel_rfl) (by kernel_rfl) rfl rfl (fun _ _ _ h => h) hS7 (fun w hJ K hK => ?_) ?_
              · refine o_off rfl rfl ?_
                exact ⟨rfl, hK⟩
              refine d_take (i := 6) (v := undef) (l' := #[true, true, true, true, true, true, true, false, false, false, false, false, false]) rfl (by kernel_rfl) (by kernel_rfl) (by kernel_rfl) rfl rfl (fun _ _ _ h => h) hS7 (fun w hJ K hK => ?_) ?_
              · refine o_off rfl rfl ?_
                exact ⟨rfl, hK⟩
              refine d_take (i := 7) (v := undef) (l' := #[true, true, true, true, true, true, true, true, false, false, false, false, false]) rfl (by kernel_rfl) (by kernel_rfl) (by kernel_rfl) rfl rfl (fun _ _ _ h => h) hS7 (fun w hJ K hK => ?_) ?_
              · refine o_off rfl rfl ?_
                exact ⟨rfl, hK⟩
              refine d_take (i := 8) (v := undef) (l' := #[true, true, true, true, true, true, true, true, true, false, false, false, false]) rfl (by kernel_rfl) (by kernel_rfl) (by kernel_rfl) rfl rfl (fun _ _ _ h => h) hS7 (fun w hJ K hK => ?_) ?_
              · refine o_off rfl rfl ?_
                exact ⟨rfl, hK⟩
              refine d_take (i := 9) (v := undef) (l' := #[true, true, true, true, true, true, true, true, true, true, false, false, false]) rfl (by kernel_rfl) (by kernel_rfl) (by kernel_rfl) rfl rfl (fun _ _ _ h => h) hS7 (fun w hJ K hK => ?_) ?_
              · refine o_off rfl rfl ?_
                exact ⟨rfl, hK⟩
              refine d_take (i := 10) (v := undef) (l' := #[true, true, true, true, true, true, true, true, true, true, true, false, false]) rfl (by kernel_rfl) (by kernel_rfl) (by kernel_rfl) rfl rfl (fun _ _ _ h => h) hS7 (fun w hJ K hK => ?_) ?_
              · refine o_off rfl rfl ?_
                exact ⟨rfl, hK⟩
              refine d_take (i := 11) (v := (.bool true)) (l' := #[true, true, true, true, true, true, true, true, true, true, true, true, false]) rfl (by kernel_rfl) (by kernel_rfl) (by kernel_rfl) rfl rfl (fun _ _ _ h => h) hS7 (fun w hJ K hK => ?_) ?_
              · refine o_pick_t (v := (.bool true)) rfl rfl ?_
                exact ⟨rfl, hK⟩
              refine d_take (i := 12) (v := (.bool true)) (l' := #[true, true, true, true, true, true, true, true, true, true, true, true, true]) rfl (by kernel_rfl) (by kernel_rfl) (by kernel_rfl) rfl rfl (fun _ _ _ h => h) hS7 (fun w hJ K hK => ?_) ?_
              · refine o_assign (v := (.bool true)) rfl ?_
                exact ⟨rfl, hK⟩
              refine d_done (by kernel_rfl) ?_
              refine then_n ?_
              exact ⟨_, rfl, true, σ4, _, hP, (upd_in rfl (upd_in rfl (upd_in rfl (upd_in rfl (upd_in rfl (upd_in rfl rfl)))))), hS7, (Sub.refl _)⟩
            · replace hP := hP.2 (by simp [hb1])
              refine d_take (i := 1) (v := (.bool false)) (l' := #[true, true, false, false, false, false, false, false, false, false, false, false, false]) rfl (by kernel_rfl) (by kernel_rfl) (by kernel_rfl) rfl rfl (fun _ _ _ h => h) hS7 (fun w hJ K hK => ?_) ?_
              · refine o_move (v := (.bool false)) (congrArg Value.bool hb1) ?_
                exact ⟨rfl, hK⟩
              refine d_take (i := 2) (v := (.slice a3 r4_.length cap3)) (l' := #[true, true, true, false, false, false, false, false, false, false, false, false, false]) rfl (by kernel_rfl) (by kernel_rfl) (by kernel_rfl) rfl rfl (fun _ _ _ h => h) hS7 (fun w hJ K hK => ?_) ?_
              · refine o_on rfl rfl ?_
                refine o_move (v := (.slice a3 r4_.length cap3)) rfl ?_
                exact ⟨rfl, hK⟩
              refine d_take (i := 3) (v := (.int .i64 ((k_2 : Nat) : Int))) (l' := #[true, true, true, true, false, false, false, false, false, false, false, false, false]) rfl (by kernel_rfl) (by kernel_rfl) (by kernel_rfl) rfl rfl (fun _ _ _ h => h) hS7 (fun w hJ K hK => ?_) ?_
              · refine o_on rfl rfl ?_
                refine o_move (v := (.int .i64 ((k_2 : Nat) : Int))) rfl ?_
                exact ⟨rfl, hK⟩
              obtain ⟨x2_, hx2⟩ := getq (l := r4_) (k := k_2) (by have := ht4; omega)
              replace hP := hP x2_ hx2
              obtain ⟨ad1, cs1, ha1, hl2, hr5, hR1, hlt1⟩ := RSl.at hr4 hx2
              cases hR1
              refine d_take (i := 4) (v := (.pointer (some (ad1.add (k_2 * 1))))) (l' := #[true, true, true, true, true, false, false, false, false, false, false, false, false]) rfl (by kernel_rfl) (by kernel_rfl) (by kernel_rfl) rfl rfl (fun _ _ _ h => h) hS7 (fun w hJ K hK => ?_) ?_
              · refine o_on rfl rfl ?_
                refine o_iaddr_slice (k := k_2) (a' := (ad1.add (k_2 * 1))) (congrArg (fun z => Value.slice z _ _) ha1) rfl rfl hlt1 Try.underlying29 Try.sizeOf9 rfl ?_
                exact ⟨rfl, hK⟩
              refine d_take (i := 5) (v := (.string x2_)) (l' := #[true, true, true, true, true, true, false, false, false, false, false, false, false]) rfl (by kernel_rfl) (by kernel_rfl) (by kernel_rfl) rfl rfl (fun _ _ _ h => h) hS7 (fun w hJ K hK => ?_) ?_
              · refine o_on rfl rfl ?_
                refine o_load (v := (.string x2_)) rfl Try.isAgg9 (hr5.cell (View.of hsub2 hJ.view) 0 rfl rfl) ?_
                exact ⟨rfl, hK⟩
              refine d_take (i := 6) (v := v3) (l' := #[true, true, true, true, true, true, true, false, false, false, false, false, false]) rfl (by kernel_rfl) (by kernel_rfl) (by kernel_rfl) rfl rfl (fun _ _ _ h => h) hS7 (fun w hJ K hK => ?_) ?_
              · refine o_on rfl rfl ?_
                refine o_move (v := v3) rfl ?_
                exact ⟨rfl, hK⟩
              refine d_take (i := 7) (v := (.int .i64 ((i_2 : Nat) : Int))) (l' := #[true, true, true, true, true, true, true, true, false, false, false, false, false]) rfl (by kernel_rfl) (by kernel_rfl) (by kernel_rfl) rfl rfl (fun _ _ _ h => h) hS7 (fun w hJ K hK => ?_) ?_
              · refine o_on rfl rfl ?_
                refine o_move (v := (.int .i64 ((i_2 : Nat) : Int))) rfl ?_
                exact ⟨rfl, hK⟩
              obtain ⟨g2, cp2, hv2⟩ := vec_posv (hS7.get (i := 0) rfl) (lt_of_getq hx1)
              refine d_take (i := 8) (v := (.pointer (some ⟨g2, i_2 * 1, none⟩))) (l' := #[true, true, true, true, true, true, true, true, true, false, false, false, false]) rfl (by kernel_rfl) (by kernel_rfl) (by kernel_rfl) rfl rfl (fun _ _ _ h => h) hS7 (fun w hJ K hK => ?_) ?_
              · refine o_on rfl rfl ?_
                refine o_iaddr_slice (k := i_2) (a' := ⟨g2, i_2 * 1, none⟩) hv2 rfl rfl (lt_of_getq hx1) Try.underlying29 Try.sizeOf9 (by simp [addr_lit]) ?_
                exact ⟨rfl, hK⟩
              refine d_take (i := 9) (v := (.string x1_)) (l' := #[true, true, true, true, true, true, true, true, true, true, false, false, false]) rfl (by kernel_rfl) (by kernel_rfl) (by kernel_rfl) rfl rfl (fun _ _ _ h => h) hS7 (fun w hJ K hK => ?_) ?_
              · refine o_on rfl rfl ?_
                refine o_load (v := (.string x1_)) rfl Try.isAgg9 (vec_cellv encTx_len (j := 0) hv2 (hJ.get (i := 0) rfl) hx1 rfl) ?_
                exact ⟨rfl, hK⟩
              refine d_take (i := 10) (v := (.bool (decide (x2_ = x1_)))) (l' := #[true, true, true, true, true, true, true, true, true, true, true, false, false]) rfl (by kernel_rfl) (by kernel_rfl) (by kernel_rfl) rfl rfl (fun _ _ _ h => h) hS7 (fun w hJ K hK => ?_) ?_
              · refine o_on rfl rfl ?_
                refine o_eqls (r := (decide (x2_ = x1_))) rfl rfl rfl ?_
                exact ⟨rfl, hK⟩
              refine d_take (i := 11) (v := (.bool (decide (x2_ = x1_)))) (l' := #[true, true, true, true, true, true, true, true, true, true, true, true, false]) rfl (by kernel_rfl) (by kernel_rfl) (by kernel_rfl) rfl rfl (fun _ _ _ h => h) hS7 (fun w hJ K hK => ?_) ?_
              · refine o_pick_f (v := (.bool (decide (x2_ = x1_)))) rfl rfl ?_
                exact ⟨rfl, hK⟩
              refine d_take (i := 12) (v := (.bool (decide (x2_ = x1_)))) (l' := #[true, true, true, true, true, true, true, true, true, true, true, true, true]) rfl (by kernel_rfl) (by kernel_rfl) (by kernel_rfl) rfl rfl (fun _ _ _ h => h) hS7 (fun w hJ K hK => ?_) ?_
              · refine o_assign (v := (.bool (decide (x2_ = x1_)))) rfl ?_
                exact ⟨rfl, hK⟩
              refine d_done (by kernel_rfl) ?_
              refine then_n ?_
              exact ⟨_, rfl, (decide (x2_ = x1_)), σ4, _, hP, (upd_in rfl (upd_in rfl (upd_in rfl (upd_in rfl (upd_in rfl (upd_in rfl rfl)))))), hS7, (Sub.refl _)⟩
          · rintro f w7 ⟨found_3, σ5, g, hY5, rfl, hS8, hsub3⟩
            replace hP := hK5 found_3 hY5
            refine wp_seq ?_
            refine d_reg (fun z => St ⟨w, σ, []⟩ z σ5 [vec v3 9 1 r3_.length ((r3_).flatMap encTx)]) (by kernel_rfl) rfl rfl ?_
            have hS9 := hS8.drew
            refine d_take (i := 0) (v := (.int .i64 ((k_2 : Nat) : Int))) (l' := #[true, false, false, false, false, false, false, false, false, false, false, false, false, false, false, false, false, false, false, false, false, false, false, false, false, false, false, false, false, false, false, false, false, false, false, false, false, false, false, false, false, false, false, false, false, false, false, false, false, false]) rfl (by kernel_rfl) (by kernel_rfl) (by kernel_rfl) rfl rfl (fun _ _ _ h => h) hS9 (fun w hJ K hK => ?_) ?_
            · refine o_move (v := (.int .i64 ((k_2 : Nat) : Int))) rfl ?_
              exact ⟨rfl, hK⟩
            refine d_take (i := 1) (v := (.bool (decide ((0 : Int) < ((k_2 : Nat) : Int))))) (l' := #[true, true, false, false, false, false, false, false, false, false, false, false, false, false, false, false, false, false, false, false, false, false, false, false, false, false, false, false, false, false, false, false, false, false, false, false, false, false, false, false, false, false, false, false, false, false, false, false, false, false]) rfl (by kernel_rfl) (by kernel_rfl) (by kernel_rfl) rfl rfl (fun _ _ _ h => h) hS9 (fun w hJ K hK => ?_) ?_
            · refine o_gtr (r := (decide ((0 : Int) < ((k_2 : Nat) : Int)))) rfl rfl rfl ?_
              exact ⟨rfl, hK⟩
            by_cases hb2 : (0 : Int) < ((k_2 : Nat) : Int)
            · replace hP := hP.1 hb2
              refine d_take (i := 2) (v := (.bool true)) (l' := #[true, true, true, false, false, false, false, false, false, false, false, false, false, false, false, false, false, false, false, false, false, false, false, false, false, false, false, false, false, false, false, false, false, false, false, false, false, false, false, false, false, false, false, false, false, false, false, false, false, false]) rfl (by kernel_rfl) (by kernel_rfl) (by kernel_rfl) rfl rfl (fun _ _ _ h => h) hS9 (fun w hJ K hK => ?_) ?_
              · refine o_move (v := (.bool true)) (congrArg Value.bool (decide_eq_true hb2)) ?_
                exact ⟨rfl, hK⟩
              refine d_take (i := 3) (v := (.slice a3 r4_.length cap3)) (l' := #[true, true, true, true, false, false, false, false, false, false, false, false, false, false, false, false, false, false, false, false, false, false, false, false, false, false, false, false, false, false, false, false, false, false, false, false, false, false, false, false, false, false, false, false, false, false, false, false, false, false]) rfl (by kernel_rfl) (by kernel_rfl) (by kernel_rfl) rfl rfl (fun _ _ _ h => h) hS9 (fun w hJ K hK => ?_) ?_
              · refine o_on rfl rfl ?_
                refine o_move (v := (.slice a3 r4_.length cap3)) rfl ?_
                exact ⟨rfl, hK⟩
              refine d_take (i := 4) (v := (.int .i64 ((k_2 : Nat) : Int))) (l' := #[true, true, true, true, true, false, false, false, false, false, false, false, false, false, false, false, false, false, false, false, false, false, false, false, false, false, false, false, false, false, false, false, false, false, false, false, false, false, false, false, false, false, false, false, false, false, false, false, false, false]) rfl (by kernel_rfl) (by kernel_rfl) (by kernel_rfl) rfl rfl (fun _ _ _ h => h) hS9 (fun w hJ K hK => ?_) ?_
              · refine o_on rfl rfl ?_
                refine o_move (v := (.int .i64 ((k_2 : Nat) : Int))) rfl ?_
                exact ⟨rfl, hK⟩
              obtain ⟨x3_, hx3⟩ := getq (l := r4_) (k := k_2) (by have := ht4; omega)
              replace hP := hP x3_ hx3
              obtain ⟨ad2, cs2, ha2, hl3, hr6, hR2, hlt2⟩ := RSl.at hr4 hx3
              cases hR2
              refine d_take (i := 5) (v := (.pointer (some (ad2.add (k_2 * 1))))) (l' := #[true, true, true, true, true, true, false, false, false, false, false, false, false, false, false, false, false, false, false, false, false, false, false, false, false, false, false, false, false, false, false, false, false, false, false, false, false, false, false, false, false, false, false, false, false, false, false, false, false, false]) rfl (by kernel_rfl) (by kernel_rfl) (by kernel_rfl) rfl rfl (fun _ _ _ h => h) hS9 (fun w hJ K hK => ?_) ?_
              · refine o_on rfl rfl ?_
                refine o_iaddr_slice (k := k_2) (a' := (ad2.add (k_2 * 1))) (congrArg (fun z => Value.slice z _ _) ha2) rfl rfl hlt2 Try.underlying29 Try.sizeOf9 rfl ?_
                exact ⟨rfl, hK⟩
              refine d_take (i := 6) (v := (.string x3_)) (l' := #[true, true, true, true, true, true, true, false, false, false, false, false, false, false, false, false, false, false, false, false, false, false, false, false, false, false, false, false, false, false, false, false, false, false, false, false, false, false, false, false, false, false, false, false, false, false, false, false, false, false]) rfl (by kernel_rfl) (by kernel_rfl) (by kernel_rfl) rfl rfl (fun _ _ _ h => h) hS9 (fun w hJ K hK => ?_) ?_
              · refine o_on rfl rfl ?_
                refine o_load (v := (.string x3_)) rfl Try.isAgg9 (hr6.cell (View.of (Sub.trans hsub2 hsub3) hJ.view) 0 rfl rfl) ?_
                exact ⟨rfl, hK⟩
              refine d_take (i := 7) (v := (.slice a3 r4_.length cap3)) (l' := #[true, true, true, true, true, true, true, true, false, false, false, false, false, false, false, false, false, false, false, false, false, false, false, false, false, false, false, false, false, false, false, false, false, false, false, false, false, false, false, false, false, false, false, false, false, false, false, false, false, false]) rfl (by kernel_rfl) (by kernel_rfl) (by kernel_rfl) rfl rfl (fun _ _ _ h => h) hS9 (fun w hJ K hK => ?_) ?_
              · refine o_on rfl rfl ?_
                refine o_move (v := (.slice a3 r4_.length cap3)) rfl ?_
                exact ⟨rfl, hK⟩
              refine d_take (i := 8) (v := (.int .i64 ((k_2 : Nat) : Int))) (l' := #[true, true, true, true, true, true, true, true, true, false, false, false, false, false, false, false, false, false, false, false, false, false, false, false, false, false, false, false, false, false, false, false, false, false, false, false, false, false, false, false, false, false, false, false, false, false, false, false, false, false]) rfl (by kernel_rfl) (by kernel_rfl) (by kernel_rfl) rfl rfl (fun _ _ _ h => h) hS9 (fun w hJ K hK => ?_) ?_
              · refine o_on rfl rfl ?_
                refine o_move (v := (.int .i64 ((k_2 : Nat) : Int))) rfl ?_
                exact ⟨rfl, hK⟩
              obtain ⟨hi1, hP⟩ := hP
              refine d_take (i := 9) (v := (.int .i64 (((k_2 : Nat) : Int) - (1 : Int)))) (l' := #[true, true, true, true, true, true, true, true, true, true, false, false, false, false, false, false, false, false, false, false, false, false, false, false, false, false, false, false, false, false, false, false, false, false, false, false, false, false, false, false, false, false, false, false, false, false, false, false, false, false]) rfl (by kernel_rfl) (by kernel_rfl) (by kernel_rfl) rfl rfl (fun _ _ _ h => h) hS9 (fun w hJ K hK => ?_) ?_
              · refine o_on rfl rfl ?_
                refine o_sub (r := (((k_2 : Nat) : Int) - (1 : Int))) rfl rfl (nwi rfl hi1) ?_
                exact ⟨rfl, hK⟩
              obtain ⟨j1_, hj1, hP⟩ := hP
              obtain ⟨x4_, hx4, hP⟩ := hP
              obtain ⟨ad3, cs3, ha3, hl4, hr7, hR3, hlt3⟩ := RSl.at hr4 hx4
              cases hR3
              refine d_take (i := 10) (v := (.pointer (some (ad3.add (j1_ * 1))))) (l' := #[true, true, true, true, true, true, true, true, true, true, true, false, false, false, false, false, false, false, false, false, false, false, false, false, false, false, false, false, false, false, false, false, false, false, false, false, false, false, false, false, false, false, false, false, false, false, false, false, false, false]) rfl (by kernel_rfl) (by kernel_rfl) (by kernel_rfl) rfl rfl (fun _ _ _ h => h) hS9 (fun w hJ K hK => ?_) ?_
              · refine o_on rfl rfl ?_
                refine o_iaddr_slice (k := j1_) (a' := (ad3.add (j1_ * 1))) (congrArg (fun z => Value.slice z _ _) ha3) rfl hj1 hlt3 Try.underlying29 Try.sizeOf9 rfl ?_
                exact ⟨rfl, hK⟩
              refine d_take (i := 11) (v := (.string x4_)) (l' := #[true, true, true, true, true, true, true, true, true, true, true, true, false, false, false, false, false, false, false, false, false, false, false, false, false, false, false, false, false, false, false, false, false, false, false, false, false, false, false, false, false, false, false, false, false, false, false, false, false, false]) rfl (by kernel_rfl) (by kernel_rfl) (by kernel_rfl) rfl rfl (fun _ _ _ h => h) hS9 (fun w hJ K hK => ?_) ?_
              · refine o_on rfl rfl ?_
                refine o_load (v := (.string x4_)) rfl Try.isAgg9 (hr7.cell (View.of (Sub.trans hsub2 hsub3) hJ.view) 0 rfl rfl) ?_
                exact ⟨rfl, hK⟩
              refine d_take (i := 12) (v := (.bool (!decide (Lk.blt x4_ x3_)))) (l' := #[true, true, true, true, true, true, true, true, true, true, true, true, true, false, false, false, false, false, false, false, false, false, false, false, false, false, false, false, false, false, false, false, false, false, false, false, false, false, false, false, false, false, false, false, false, false, false, false, false, false]) rfl (by kernel_rfl) (by kernel_rfl) (by kernel_rfl) rfl rfl (fun _ _ _ h => h) hS9 (fun w hJ K hK => ?_) ?_
              · refine o_on rfl rfl ?_
                refine o_leqs (r := (!decide (Lk.blt x4_ x3_))) rfl rfl rfl ?_
                exact ⟨rfl, hK⟩
              refine d_take (i := 13) (v := (.bool (!decide (Lk.blt x4_ x3_)))) (l' := #[true, true, true, true, true, true, true, true, true, true, true, true, true, true, false, false, false, false, false, false, false, false, false, false, false, false, false, false, false, false, false, false, false, false, false, false, false, false, false, false, false, false, false, false, false, false, false, false, false, false]) rfl (by kernel_rfl) (by kernel_rfl) (by kernel_rfl) rfl rfl (fun _ _ _ h => h) hS9 (fun w hJ K hK => ?_) ?_
              · refine o_pick_t (v := (.bool (!decide (Lk.blt x4_ x3_)))) rfl rfl ?_
                exact ⟨rfl, hK⟩
              by_cases hb3 : Lk.blt x4_ x3_
              · replace hP := hP.1 hb3
                refine d_take (i := 14) (v := (.bool false)) (l' := #[true, true, true, true, true, true, true, true, true, true, true, true, true, true, true, false, false, false, false, false, false, false, false, false, false, false, false, false, false, false, false, false, false, false, false, false, false, false, false, false, false, false, false, false, false, false, false, false, false, false]) rfl (by kernel_rfl) (by kernel_rfl) (by kernel_rfl) rfl rfl (fun _ _ _ h => h) hS9 (fun w hJ K hK => ?_) ?_
                · refine o_move (v := (.bool false)) (congrArg Value.bool (congrArg Bool.not (decide_eq_true hb3))) ?_
                  exact ⟨rfl, hK⟩
                refine d_take (i := 15) (v := (.slice a2 r2_.length cap2)) (l' := #[true, true, true, true, true, true, true, true, true, true, true, true, true, true, true, true, false, false, false, false, false, false, false, false, false, false, false, false, false, false, false, false, false, false, false, false, false, false, false, false, false, false, false, false, false, false, false, false, false, false]) rfl (by kernel_rfl) (by kernel_rfl) (by kernel_rfl) rfl rfl (fun _ _ _ h => h) hS9 (fun w hJ K hK => ?_) ?_
                · refine o_on rfl rfl ?_
                  refine o_move (v := (.slice a2 r2_.length cap2)) rfl ?_
                  exact ⟨rfl, hK⟩
                refine d_take (i := 16) (v := (.slice a3 r4_.length cap3)) (l' := #[true, true, true, true, true, true, true, true, true, true, true, true, true, true, true, true, true, false, false, false, false, false, false, false, false, false, false, false, false, false, false, false, false, false, false, false, false, false, false, false, false, false, false, false, false, false, false, false, false, false]) rfl (by kernel_rfl) (by kernel_rfl) (by kernel_rfl) rfl rfl (fun _ _ _ h => h) hS9 (fun w hJ K hK => ?_) ?_
                · refine o_on rfl rfl ?_
                  refine o_move (v := (.slice a3 r4_.length cap3)) rfl ?_
                  exact ⟨rfl, hK⟩
                refine d_take (i := 17) (v := (.int .i64 ((k_2 : Nat) : Int))) (l' := #[true, true, true, true, true, true, true, true, true, true, true, true, true, true, true, true, true, true, false, false, false, false, false, false, false, false, false, false, false, false, false, false, false, false, false, false, false, false, false, false, false, false, false, false, false, false, false, false, false, false]) rfl (by kernel_rfl) (by kernel_rfl) (by kernel_rfl) rfl rfl (fun _ _ _ h => h) hS9 (fun w hJ K hK => ?_) ?_
                · refine o_on rfl rfl ?_
                  refine o_move (v := (.int .i64 ((k_2 : Nat) : Int))) rfl ?_
                  exact ⟨rfl, hK⟩
                refine d_take (i := 18) (v := (.pointer (some (ad2.add (k_2 * 1))))) (l' := #[true, true, true, true, true, true, true, true, true, true, true, true, true, true, true, true, true, true, true, false, false, false, false, false, false, false, false, false, false, false, false, false, false, false, false, false, false, false, false, false, false, false, false, false, false, false, false, false, false, false]) rfl (by kernel_rfl) (by kernel_rfl) (by kernel_rfl) rfl rfl (fun _ _ _ h => h) hS9 (fun w hJ K hK => ?_) ?_
                · refine o_on rfl rfl ?_
                  refine o_iaddr_slice (k := k_2) (a' := (ad2.add (k_2 * 1))) (congrArg (fun z => Value.slice z _ _) ha2) rfl rfl hlt2 Try.underlying29 Try.sizeOf9 rfl ?_
                  exact ⟨rfl, hK⟩
                refine d_take (i := 19) (v := (.string x3_)) (l' := #[true, true, true, true, true, true, true, true, true, true, true, true, true, true, true, true, true, true, true, true, false, false, false, false, false, false, false, false, false, false, false, false, false, false, false, false, false, false, false, false, false, false, false, false, false, false, false, false, false, false]) rfl (by kernel_rfl) (by kernel_rfl) (by kernel_rfl) rfl rfl (fun _ _ _ h => h) hS9 (fun w hJ K hK => ?_) ?_
                · refine o_on rfl rfl ?_
                  refine o_load (v := (.string x3_)) rfl Try.isAgg9 (hr6.cell (View.of (Sub.trans hsub2 hsub3) hJ.view) 0 rfl rfl) ?_
                  exact ⟨rfl, hK⟩
                refine d_take (i := 21) (v := (.slice a3 r4_.length cap3)) (l' := #[true, true, true, true, true, true, true, true, true, true, true, true, true, true, true, true, true, true, true, true, false, true, false, false, false, false, false, false, false, false, false, false, false, false, false, false, false, false, false, false, false, false, false, false, false, false, false, false, false, false]) rfl (by kernel_rfl) (by kernel_rfl) (by kernel_rfl) rfl rfl (fun _ _ _ h => h) hS9 (fun w hJ K hK => ?_) ?_
                · refine o_on rfl rfl ?_
                  refine o_move (v := (.slice a3 r4_.length cap3)) rfl ?_
                  exact ⟨rfl, hK⟩
                refine d_one (i := 20) (by kernel_rfl) rfl (l' := #[true, true, true, true, true, true, true, true, true, true, true, true, true, true, true, true, true, true, true, true, true, true, false, false, false, false, false, false, false, false, false, false, false, false, false, false, false, false, false, false, false, false, false, false, false, false, false, false, false, false]) rfl ?_
                refine o_on rfl rfl ?_
                obtain ⟨Y8, hK6, hc5⟩ := hP
                refine o_call (args := [(.slice a2 r2_.length cap2), (.string x3_)]) rfl Try.call18 (Calls.mono (w_identity_Members r2_ x3_ (.slice a2 r2_.length cap2) hS9.view (RSl.menc (Sub.trans (Sub.trans (Sub.trans hsub1 hg4.sub) hsub2) hsub3) hr2) hc5) ?_)
                rintro _ w8 ⟨r5_, v5, σ6, rfl, hg5, hr8, hY6⟩
                refine ⟨_, rfl, ?_⟩
                have hS10 := hS9.grow hg5
                replace hP := hK6 r5_ hY6
                obtain ⟨a4, cap4, rfl⟩ := hr8.shape
                refine wpList_nil ?_
                refine ⟨rfl, (hS10.less hS9 hg5.sub), wpJ_weak (J' := fun z => St ⟨w, σ, []⟩ z σ6 [vec v3 9 1 r3_.length ((r3_).flatMap encTx)]) (fun w h => (h.less hS9 hg5.sub).sublist (by first | exact List.nil_sublist _ | simp)) _ _ _ _ ?_⟩
                refine d_one (i := 22) (by kernel_rfl) rfl (l' := #[true, true, true, true, true, true, true, true, true, true, true, true, true, true, true, true, true, true, true, true, true, true, true, false, false, false, false, false, false, false, false, false, false, false, false, false, false, false, false, false, false, false, false, false, false, false, false, false, false, false]) rfl ?_
                refine o_on rfl rfl ?_
                obtain ⟨Y9, hK7, hc6⟩ := hP
                refine o_call (args := [(.slice a4 r5_.length cap4), (.slice a3 r4_.length cap3)]) rfl Try.call19 (Calls.mono (w_ref1_Same r5_ r4_ (.slice a4 r5_.length cap4) (.slice a3 r4_.length cap3) hS10.view hr8 (RSl.menc (Sub.trans (Sub.trans hsub2 hsub3) hg5.sub) hr4) hc6) ?_)
                rintro _ w9 ⟨r6_, rfl, hg6, hY7⟩
                refine ⟨_, rfl, ?_⟩
                have hS11 := hS10.grow hg6
                replace hP := hK7 r6_ hY7
                refine wpList_nil ?_
                refine ⟨rfl, hS11, ?_⟩
                refine d_take (i := 23) (v := (.bool (!r6_))) (l' := #[true, true, true, true, true, true, true, true, true, true, true, true, true, true, true, true, true, true, true, true, true, true, true, true, false, false, false, false, false, false, false, false, false, false, false, false, false, false, false, false, false, false, false, false, false, false, false, false, false, false]) rfl (by kernel_rfl) (by kernel_rfl) (by kernel_rfl) rfl rfl (fun _ _ _ h => h) hS11 (fun w hJ K hK => ?_) ?_
                · refine o_on rfl rfl ?_
                  refine o_not (r := (!r6_)) rfl rfl ?_
                  exact ⟨rfl, hK⟩
                refine d_take (i := 24) (v := (.bool (!r6_))) (l' := #[true, true, true, true, true, true, true, true, true, true, true, true, true, true, true, true, true, true, true, true, true, true, true, true, true, false, false, false, false, false, false, false, false, false, false, false, false, false, false, false, false, false, false, false, false, false, false, false, false, false]) rfl (by kernel_rfl) (by kernel_rfl) (by kernel_rfl) rfl rfl (fun _ _ _ h => h) hS11 (fun w hJ K hK => ?_) ?_
                · refine o_pick_f (v := (.bool (!r6_))) rfl rfl ?_
                  exact ⟨rfl, hK⟩
                rcases Bool.eq_false_or_eq_true (r6_) with hb4 | hb4
                · replace hP := hP.1 hb4
                  refine d_take (i := 25) (v := (.bool false)) (l' := #[true, true, true, true, true, true, true, true, true, true, true, true, true, true, true, true, true, true, true, true, true, true, true, true, true, true, false, false, false, false, false, false, false, false, false, false, false, false, false, false, false, false, false, false, false, false, false, false, false, false]) rfl (by kernel_rfl) (by kernel_rfl) (by kernel_rfl) rfl rfl (fun _ _ _ h => h) hS11 (fun w hJ K hK => ?_) ?_
                  · refine o_move (v := (.bool false)) (congrArg Value.bool (congrArg Bool.not hb4)) ?_
                    exact ⟨rfl, hK⟩
                  refine d_take (i := 26) (v := (.slice a2 r2_.length cap2)) (l' := #[true, true, true, true, true, true, true, true, true, true, true, true, true, true, true, true, true, true, true, true, true, true, true, true, true, true, true, false, false, false, false, false, false, false, false, false, false, false, false, false, false, false, false, false, false, false, false, false, false, false]) rfl (by kernel_rfl) (by kernel_rfl) (by kernel_rfl) rfl rfl (fun _ _ _ h => h) hS11 (fun w hJ K hK => ?_) ?_
                  · refine o_on rfl rfl ?_
                    refine o_move (v := (.slice a2 r2_.length cap2)) rfl ?_
                    exact ⟨rfl, hK⟩
                  refine d_take (i := 27) (v := (.slice a3 r4_.length cap3)) (l' := #[true, true, true, true, true, true, true, true, true, true, true, true, true, true, true, true, true, true, true, true, true, true, true, true, true, true, true, true, false, false, false, false, false, false, false, false, false, false, false, false, false, false, false, false, false, false, false, false, false, false]) rfl (by kernel_rfl) (by kernel_rfl) (by kernel_rfl) rfl rfl (fun _ _ _ h => h) hS11 (fun w hJ K hK => ?_) ?_
                  · refine o_on rfl rfl ?_
                    refine o_move (v := (.slice a3 r4_.length cap3)) rfl ?_
                    exact ⟨rfl, hK⟩
                  refine d_take (i := 28) (v := (.int .i64 ((k_2 : Nat) : Int))) (l' := #[true, true, true, true, true, true, true, true, true, true, true, true, true, true, true, true, true, true, true, true, true, true, true, true, true, true, true, true, true, false, false, false, false, false, false, false, false, false, false, false, false, false, false, false, false, false, false, false, false, false]) rfl (by kernel_rfl) (by kernel_rfl) (by kernel_rfl) rfl rfl (fun _ _ _ h => h) hS11 (fun w hJ K hK => ?_) ?_
                  · refine o_on rfl rfl ?_
                    refine o_move (v := (.int .i64 ((k_2 : Nat) : Int))) rfl ?_
                    exact ⟨rfl, hK⟩
                  refine d_take (i := 29) (v := (.pointer (some (ad2.add (k_2 * 1))))) (l' := #[true, true, true, true, true, true, true, true, true, true, true, true, true, true, true, true, true, true, true, true, true, true, true, true, true, true, true, true, true, true, false, false, false, false, false, false, false, false, false, false, false, false, false, false, false, false, false, false, false, false]) rfl (by kernel_rfl) (by kernel_rfl) (by kernel_rfl) rfl rfl (fun _ _ _ h => h) hS11 (fun w hJ K hK => ?_) ?_
                  · refine o_on rfl rfl ?_
                    refine o_iaddr_slice (k := k_2) (a' := (ad2.add (k_2 * 1))) (congrArg (fun z => Value.slice z _ _) ha2) rfl rfl hlt2 Try.underlying29 Try.sizeOf9 rfl ?_
                    exact ⟨rfl, hK⟩
                  refine d_take (i := 30) (v := (.string x3_)) (l' := #[true, true, true, true, true, true, true, true, true, true, true, true, true, true, true, true, true, true, true, true, true, true, true, true, true, true, true, true, true, true, true, false, false, false, false, false, false, false, false, false, false, false, false, false, false, false, false, false, false, false]) rfl (by kernel_rfl) (by kernel_rfl) (by kernel_rfl) rfl rfl (fun _ _ _ h => h) hS11 (fun w hJ K hK => ?_) ?_
                  · refine o_on rfl rfl ?_
                    refine o_load (v := (.string x3_)) rfl Try.isAgg9 (hr6.cell (View.of (Sub.trans (Sub.trans hsub2 hsub3) hg5.sub) hJ.view) 0 rfl rfl) ?_
                    exact ⟨rfl, hK⟩
                  refine d_take (i := 32) (v := (.slice a3 r4_.length cap3)) (l' := #[true, true, true, true, true, true, true, true, true, true, true, true, true, true, true, true, true, true, true, true, true, true, true, true, true, true, true, true, true, true, true, false, true, false, false, false, false, false, false, false, false, false, false, false, false, false, false, false, false, false]) rfl (by kernel_rfl) (by kernel_rfl) (by kernel_rfl) rfl rfl (fun _ _ _ h => h) hS11 (fun w hJ K hK => ?_) ?_
                  · refine o_on rfl rfl ?_
                    refine o_move (v := (.slice a3 r4_.length cap3)) rfl ?_
                    exact ⟨rfl, hK⟩
                  obtain ⟨x5_, hx5, hP⟩ := hP
                  obtain ⟨ad4, cs4, ha4, hl5, hr9, hR4, hlt4⟩ := RSl.at hr4 hx5
                  cases hR4
                  refine d_take (i := 33) (v := (.pointer (some (ad4.add (0 * 1))))) (l' := #[true, true, true, true, true, true, true, true, true, true, true, true, true, true, true, true, true, true, true, true, true, true, true, true, true, true, true, true, true, true, true, false, true, true, false, false, false, false, false, false, false, false, false, false, false, false, false, false, false, false]) rfl (by kernel_rfl) (by kernel_rfl) (by kernel_rfl) rfl rfl (fun _ _ _ h => h) hS11 (fun w hJ K hK => ?_) ?_
                  · refine o_on rfl rfl ?_
                    refine o_iaddr_slice (k := 0) (a' := (ad4.add (0 * 1))) (congrArg (fun z => Value.slice z _ _) ha4) rfl rfl hlt4 Try.underlying29 Try.sizeOf9 rfl ?_
                    exact ⟨rfl, hK⟩
                  refine d_take (i := 34) (v := (.string x5_)) (l' := #[true, true, true, true, true, true, true, true, true, true, true, true, true, true, true, true, true, true, true, true, true, true, true, true, true, true, true, true, true, true, true, false, true, true, true, false, false, false, false, false, false, false, false, false, false, false, false, false, false, false]) rfl (by kernel_rfl) (by kernel_rfl) (by kernel_rfl) rfl rfl (fun _ _ _ h => h) hS11 (fun w hJ K hK => ?_) ?_
                  · refine o_on rfl rfl ?_
                    refine o_load (v := (.string x5_)) rfl Try.isAgg9 (hr9.cell (View.of (Sub.trans (Sub.trans hsub2 hsub3) hg5.sub) hJ.view) 0 rfl rfl) ?_
                    exact ⟨rfl, hK⟩
                  refine d_one (i := 31) (by kernel_rfl) rfl (l' := #[true, true, true, true, true, true, true, true, true, true, true, true, true, true, true, true, true, true, true, true, true, true, true, true, true, true, true, true, true, true, true, true, true, true, true, false, false, false, false, false, false, false, false, false, false, false, false, false, false, false]) rfl ?_
                  refine o_on rfl rfl ?_
                  obtain ⟨Y10, hK8, hc7⟩ := hP
                  refine o_call (args := [(.slice a2 r2_.length cap2), (.string x3_)]) rfl Try.call20 (Calls.mono (w_identity_Root r2_ x3_ (.slice a2 r2_.length cap2) hS11.view (RSl.menc (Sub.trans (Sub.trans (Sub.trans (Sub.trans hsub1 hg4.sub) hsub2) hsub3) hg5.sub) hr2) hc7) ?_)
                  rintro _ w10 ⟨r7_, rfl, hg7, hY8⟩
                  refine ⟨_, rfl, ?_⟩
                  have hS12 := hS11.grow hg7
                  replace hP := hK8 r7_ hY8
                  refine wpList_nil ?_
                  refine ⟨rfl, hS12, ?_⟩
                  refine d_take (i := 35) (v := (.bool (!decide (r7_ = x5_)))) (l' := #[true, true, true, true, true, true, true, true, true, true, true, true, true, true, true, true, true, true, true, true, true, true, true, true, true, true, true, true, true, true, true, true, true, true, true, true, false, false, false, false, false, false, false, false, false, false, false, false, false, false]) rfl (by kernel_rfl) (by kernel_rfl) (by kernel_rfl) rfl rfl (fun _ _ _ h => h) hS12 (fun w hJ K hK => ?_) ?_
                  · refine o_on rfl rfl ?_
                    refine o_neqs (r := (!decide (r7_ = x5_))) rfl rfl rfl ?_
                    exact ⟨rfl, hK⟩
                  refine d_take (i := 36) (v := (.bool (!decide (r7_ = x5_)))) (l' := #[true, true, true, true, true, true, true, true, true, true, true, true, true, true, true, true, true, true, true, true, true, true, true, true, true, true, true, true, true, true, true, true, true, true, true, true, true, false, false, false, false, false, false, false, false, false, false, false, false, false]) rfl (by kernel_rfl) (by kernel_rfl) (by kernel_rfl) rfl rfl (fun _ _ _ h => h) hS12 (fun w hJ K hK => ?_) ?_
                  · refine o_pick_f (v := (.bool (!decide (r7_ = x5_)))) rfl rfl ?_
                    exact ⟨rfl, hK⟩
                  by_cases hb5 : r7_ = x5_
                  · replace hP := hP.1 hb5
                    refine d_take (i := 37) (v := (.bool false)) (l' := #[true, true, true, true, true, true, true, true, true, true, true, true, true, true, true, true, true, true, true, true, true, true, true, true, true, true, true, true, true, true, true, true, true, true, true, true, true, true, false, false, false, false, false, false, false, false, false, false, false, false]) rfl (by kernel_rfl) (by kernel_rfl) (by kernel_rfl) rfl rfl (fun _ _ _ h => h) hS12 (fun w hJ K hK => ?_) ?_
                    · refine o_move (v := (.bool false)) (congrArg Value.bool (congrArg Bool.not (decide_eq_true hb5))) ?_
                      exact ⟨rfl, hK⟩
                    refine d_take (i := 38) (v := (.slice a2 r2_.length cap2)) (l' := #[true, true, true, true, true, true, true, true, true, true, true, true, true, true, true, true, true, true, true, true, true, true, true, true, true, true, true, true, true, true, true, true, true, true, true, true, true, true, true, false, false, false, false, false, false, false, false, false, false, false]) rfl (by kernel_rfl) (by kernel_rfl) (by kernel_rfl) rfl rfl (fun _ _ _ h => h) hS12 (fun w hJ K hK => ?_) ?_
                    · refine o_on rfl rfl ?_
                      refine o_move (v := (.slice a2 r2_.length cap2)) rfl ?_
                      exact ⟨rfl, hK⟩
                    refine d_take (i := 39) (v := (.slice a3 r4_.length cap3)) (l' := #[true, true, true, true, true, true, true, true, true, true, true, true, true, true, true, true, true, true, true, true, true, true, true, true, true, true, true, true, true, true, true, true, true, true, true, true, true, true, true, true, false, false, false, false, false, false, false, false, false, false]) rfl (by kernel_rfl) (by kernel_rfl) (by kernel_rfl) rfl rfl (fun _ _ _ h => h) hS12 (fun w hJ K hK => ?_) ?_
                    · refine o_on rfl rfl ?_
                      refine o_move (v := (.slice a3 r4_.length cap3)) rfl ?_
                      exact ⟨rfl, hK⟩
                    refine d_take (i := 40) (v := (.int .i64 ((k_2 : Nat) : Int))) (l' := #[true, true, true, true, true, true, true, true, true, true, true, true, true, true, true, true, true, true, true, true, true, true, true, true, true, true, true, true, true, true, true, true, true, true, true, true, true, true, true, true, true, false, false, false, false, false, false, false, false, false]) rfl (by kernel_rfl) (by kernel_rfl) (by kernel_rfl) rfl rfl (fun _ _ _ h => h) hS12 (fun w hJ K hK => ?_) ?_
                    · refine o_on rfl rfl ?_
                      refine o_move (v := (.int .i64 ((k_2 : Nat) : Int))) rfl ?_
                      exact ⟨rfl, hK⟩
                    refine d_take (i := 41) (v := (.pointer (some (ad2.add (k_2 * 1))))) (l' := #[true, true, true, true, true, true, true, true, true, true, true, true, true, true, true, true, true, true, true, true, true, true, true, true, true, true, true, true, true, true, true, true, true, true, true, true, true, true, true, true, true, true, false, false, false, false, false, false, false, false]) rfl (by kernel_rfl) (by kernel_rfl) (by kernel_rfl) rfl rfl (fun _ _ _ h => h) hS12 (fun w hJ K hK => ?_) ?_
                    · refine o_on rfl rfl ?_
                      refine o_iaddr_slice (k := k_2) (a' := (ad2.add (k_2 * 1))) (congrArg (fun z => Value.slice z _ _) ha2) rfl rfl hlt2 Try.underlying29 Try.sizeOf9 rfl ?_
                      exact ⟨rfl, hK⟩
                    refine d_take (i := 42) (v := (.string x3_)) (l' := #[true, true, true, true, true, true, true, true, true, true, true, true, true, true, true, true, true, true, true, true, true, true, true, true, true, true, true, true, true, true, true, true, true, true, true, true, true, true, true, true, true, true, true, false, false, false, false, false, false, false]) rfl (by kernel_rfl) (by kernel_rfl) (by kernel_rfl) rfl rfl (fun _ _ _ h => h) hS12 (fun w hJ K hK => ?_) ?_
                    · refine o_on rfl rfl ?_
                      refine o_load (v := (.string x3_)) rfl Try.isAgg9 (hr6.cell (View.of (Sub.trans (Sub.trans hsub2 hsub3) hg5.sub) hJ.view) 0 rfl rfl) ?_
                      exact ⟨rfl, hK⟩
                    refine d_take (i := 43) (v := v3) (l' := #[true, true, true, true, true, true, true, true, true, true, true, true, true, true, true, true, true, true, true, true, true, true, true, true, true, true, true, true, true, true, true, true, true, true, true, true, true, true, true, true, true, true, true, true, false, false, false, false, false, false]) rfl (by kernel_rfl) (by kernel_rfl) (by kernel_rfl) rfl rfl (fun _ _ _ h => h) hS12 (fun w hJ K hK => ?_) ?_
                    · refine o_on rfl rfl ?_
                      refine o_move (v := v3) rfl ?_
                      exact ⟨rfl, hK⟩
                    refine d_take (i := 44) (v := (.int .i64 ((i_2 : Nat) : Int))) (l' := #[true, true, true, true, true, true, true, true, true, true, true, true, true, true, true, true, true, true, true, true, true, true, true, true, true, true, true, true, true, true, true, true, true, true, true, true, true, true, true, true, true, true, true, true, true, false, false, false, false, false]) rfl (by kernel_rfl) (by kernel_rfl) (by kernel_rfl) rfl rfl (fun _ _ _ h => h) hS12 (fun w hJ K hK => ?_) ?_
                    · refine o_on rfl rfl ?_
                      refine o_move (v := (.int .i64 ((i_2 : Nat) : Int))) rfl ?_
                      exact ⟨rfl, hK⟩
                    obtain ⟨g3, cp3, hv3⟩ := vec_posv (hS12.get (i := 0) rfl) (lt_of_getq hx1)
                    refine d_take (i := 45) (v := (.pointer (some ⟨g3, i_2 * 1, none⟩))) (l' := #[true, true, true, true, true, true, true, true, true, true, true, true, true, true, true, true, true, true, true, true, true, true, true, true, true, true, true, true, true, true, true, true, true, true, true, true, true, true, true, true, true, true, true, true, true, true, false, false, false, false]) rfl (by kernel_rfl) (by kernel_rfl) (by kernel_rfl) rfl rfl (fun _ _ _ h => h) hS12 (fun w hJ K hK => ?_) ?_
                    · refine o_on rfl rfl ?_
                      refine o_iaddr_slice (k := i_2) (a' := ⟨g3, i_2 * 1, none⟩) hv3 rfl rfl (lt_of_getq hx1) Try.underlying29 Try.sizeOf9 (by simp [addr_lit]) ?_
                      exact ⟨rfl, hK⟩
                    refine d_take (i := 46) (v := (.string x1_)) (l' := #[true, true, true, true, true, true, true, true, true, true, true, true, true, true, true, true, true, true, true, true, true, true, true, true, true, true, true, true, true, true, true, true, true, true, true, true, true, true, true, true, true, true, true, true, true, true, true, false, false, false]) rfl (by kernel_rfl) (by kernel_rfl) (by kernel_rfl) rfl rfl (fun _ _ _ h => h) hS12 (fun w hJ K hK => ?_) ?_
                    · refine o_on rfl rfl ?_
                      refine o_load (v := (.string x1_)) rfl Try.isAgg9 (vec_cellv encTx_len (j := 0) hv3 (hJ.get (i := 0) rfl) hx1 rfl) ?_
                      exact ⟨rfl, hK⟩
                    refine d_one (i := 47) (by kernel_rfl) rfl (l' := #[true, true, true, true, true, true, true, true, true, true, true, true, true, true, true, true, true, true, true, true, true, true, true, true, true, true, true, true, true, true, true, true, true, true, true, true, true, true, true, true, true, true, true, true, true, true, true, true, false, false]) rfl ?_
                    refine o_on rfl rfl ?_
                    obtain ⟨Y11, hK9, hc8⟩ := hP
                    refine o_call (args := [(.slice a2 r2_.length cap2), (.string x3_), (.string x1_)]) rfl Try.call15 (Calls.mono (w_identity_Same r2_ x3_ x1_ (.slice a2 r2_.length cap2) hS12.view (RSl.menc (Sub.trans (Sub.trans (Sub.trans (Sub.trans hsub1 hg4.sub) hsub2) hsub3) hg5.sub) hr2) hc8) ?_)
                    rintro _ w11 ⟨r8_, rfl, hg8, hY9⟩
                    refine ⟨_, rfl, ?_⟩
                    have hS13 := hS12.grow hg8
                    replace hP := hK9 r8_ hY9
                    refine wpList_nil ?_
                    refine ⟨rfl, hS13, ?_⟩
                    refine d_take (i := 48) (v := (.bool (!r8_))) (l' := #[true, true, true, true, true, true, true, true, true, true, true, true, true, true, true, true, true, true, true, true, true, true, true, true, true, true, true, true, true, true, true, true, true, true, true, true, true, true, true, true, true, true, true, true, true, true, true, true, true, false]) rfl (by kernel_rfl) (by kernel_rfl) (by kernel_rfl) rfl rfl (fun _ _ _ h => h) hS13 (fun w hJ K hK => ?_) ?_
                    · refine o_on rfl rfl ?_
                      refine o_not (r := (!r8_)) rfl rfl ?_
                      exact ⟨rfl, hK⟩
                    refine d_take (i := 49) (v := (.bool (!r8_))) (l' := #[true, true, true, true, true, true, true, true, true, true, true, true, true, true, true, true, true, true, true, true, true, true, true, true, true, true, true, true, true, true, true, true, true, true, true, true, true, true, true, true, true, true, true, true, true, true, true, true, true, true]) rfl (by kernel_rfl) (by kernel_rfl) (by kernel_rfl) rfl rfl (fun _ _ _ h => h) hS13 (fun w hJ K hK => ?_) ?_
                    · refine o_pick_f (v := (.bool (!r8_))) rfl rfl ?_
                      exact ⟨rfl, hK⟩
                    refine d_done (by kernel_rfl) ?_
                    refine then_n ?_
                    refine if_nb rfl (fun ht5 => ?_) (fun ht5 => ?_)
                    · replace hP := hP.2 (by simp [ht5])
                      refine seq_reg ?_
                      refine o_assign (v := (.bool false)) rfl ?_
                      refine wpList_nil ?_
                      refine then_n ?_
                      refine wp_ret ?_
                      refine blk_r ?_
                      refine then_r ?_
                      refine then_r ?_
                      refine blk_r ?_
                      refine then_r ?_
                      refine blk_r ?_
                      refine then_r ?_
                      refine then_r ?_
                      refine blk_r ?_
                      refine then_r ?_
                      refine ret1 rfl (show ev _ _ _ = (.bool false) from rfl) ?_
                      exact ⟨false, rfl, hS13.done.forget, hP⟩
                    · replace hP := hP.1 ht5
                      refine wp_skip ?_
                      refine blk_n ?_
                      refine then_n ?_
                      refine one_reg ?_
                      refine o_move (v := (.int .i64 ((k_2 : Nat) : Int))) rfl ?_
                      refine o_add (r := ((k_2 + 1 : Nat) : Int)) rfl rfl (nw (by omega) (by omega) (by have := hlen3; omega)) ?_
                      refine o_assign (v := (.int .i64 ((k_2 + 1 : Nat) : Int))) rfl ?_
                      refine wpList_nil ?_
                      refine then_n ?_
                      exact ⟨(found_3), k_2 + 1, _, rfl, hP, σ6, _, (upd_in rfl (upd_in rfl (upd_in rfl (upd_in rfl (upd_in rfl (upd_in rfl rfl)))))), hS13, (Sub.trans (Sub.trans hsub2 hsub3) hg5.sub)⟩
                  · replace hP := hP.2 hb5
                    refine d_take (i := 37) (v := (.bool true)) (l' := #[true, true, true, true, true, true, true, true, true, true, true, true, true, true, true, true, true, true, true, true, true, true, true, true, true, true, true, true, true, true, true, true, true, true, true, true, true, true, false, false, false, false, false, false, false, false, false, false, false, false]) rfl (by kernel_rfl) (by kernel_rfl) (by kernel_rfl) rfl rfl (fun _ _ _ h => h) hS12 (fun w hJ K hK => ?_) ?_
                    · refine o_move (v := (.bool true)) (congrArg Value.bool (congrArg Bool.not (decide_eq_false hb5))) ?_
                      exact ⟨rfl, hK⟩
                    refine d_take (i := 38) (v := undef) (l' := #[true, true, true, true, true, true, true, true, true, true, true, true, true, true, true, true, true, true, true, true, true, true, true, true, true, true, true, true, true, true, true, true, true, true, true, true, true, true, true, false, false, false, false, false, false, false, false, false, false, false]) rfl (by kernel_rfl) (by kernel_rfl) (by kernel_rfl) rfl rfl (fun _ _ _ h => h) hS12 (fun w hJ K hK => ?_) ?_
                    · refine o_off rfl rfl ?_
                      exact ⟨rfl, hK⟩
                    refine d_take (i := 39) (v := undef) (l' := #[true, true, true, true, true, true, true, true, true, true, true, true, true, true, true, true, true, true, true, true, true, true, true, true, true, true, true, true, true, true, true, true, true, true, true, true, true, true, true, true, false, false, false, false, false, false, false, false, false, false]) rfl (by kernel_rfl) (by kernel_rfl) (by kernel_rfl) rfl rfl (fun _ _ _ h => h) hS12 (fun w hJ K hK => ?_) ?_
                    · refine o_off rfl rfl ?_
                      exact ⟨rfl, hK⟩
                    refine d_take (i := 40) (v := undef) (l' := #[true, true, true, true, true, true, true, true, true, true, true, true, true, true, true, true, true, true, true, true, true, true, true, true, true, true, true, true, true, true, true, true, true, true, true, true, true, true, true, true, true, false, false, false, false, false, false, false, false, false]) rfl (by kernel_rfl) (by kernel_rfl) (by kernel_rfl) rfl rfl (fun _ _ _ h => h) hS12 (fun w hJ K hK => ?_) ?_
                    · refine o_off rfl rfl ?_
                      exact ⟨rfl, hK⟩
                    refine d_take (i := 41) (v := undef) (l' := #[true, true, true, true, true, true, true, true, true, true, true, true, true, true, true, true, true, true, true, true, true, true, true, true, true, true, true, true, true, true, true, true, true, true, true, true, true, true, true, true, true, true, false, false, false, false, false, false, false, false]) rfl (by kernel_rfl) (by kernel_rfl) (by kernel_rfl) rfl rfl (fun _ _ _ h => h) hS12 (fun w hJ K hK => ?_) ?_
                    · refine o_off rfl rfl ?_
                      exact ⟨rfl, hK⟩
                    refine d_take (i := 42) (v := undef) (l' := #[true, true, true, true, true, true, true, true, true, true, true, true, true, true, true, true, true, true, true, true, true, true, true, true, true, true, true, true, true, true, true, true, true, true, true, true, true, true, true, true, true, true, true, false, false, false, false, false, false, false]) rfl (by kernel_rfl) (by kernel_rfl) (by kernel_rfl) rfl rfl (fun _ _ _ h => h) hS12 (fun w hJ K hK => ?_) ?_
                    · refine o_off rfl rfl ?_
                      exact ⟨rfl, hK⟩
                    refine d_take (i := 43) (v := undef) (l' := #[true, true, true, true, true, true, true, true, true, true, true, true, true, true, true, true, true, true, true, true, true, true, true, true, true, true, true, true, true, true, true, true, true, true, true, true, true, true, true, true, true, true, true, true, false, false, false, false, false, false]) rfl (by kernel_rfl) (by kernel_rfl) (by kernel_rfl) rfl rfl (fun _ _ _ h => h) hS12 (fun w hJ K hK => ?_) ?_
                    · refine o_off rfl rfl ?_
                      exact ⟨rfl, hK⟩
                    refine d_take (i := 44) (v := undef) (l' := #[true, true, true, true, true, true, true, true, true, true, true, true, true, true, true, true, true, true, true, true, true, true, true, true, true, true, true, true, true, true, true, true, true, true, true, true, true, true, true, true, true, true, true, true, true, false, false, false, false, false]) rfl (by kernel_rfl) (by kernel_rfl) (by kernel_rfl) rfl rfl (fun _ _ _ h => h) hS12 (fun w hJ K hK => ?_) ?_
                    · refine o_off rfl rfl ?_
                      exact ⟨rfl, hK⟩
                    refine d_take (i := 45) (v := undef) (l' := #[true, true, true, true, true, true, true, true, true, true, true, true, true, true, true, true, true, true, true, true, true, true, true, true, true, true, true, true, true, true, true, true, true, true, true, true, true, true, true, true, true, true, true, true, true, true, false, false, false, false]) rfl (by kernel_rfl) (by kernel_rfl) (by kernel_rfl) rfl rfl (fun _ _ _ h => h) hS12 (fun w hJ K hK => ?_) ?_
                    · refine o_off rfl rfl ?_
                      exact ⟨rfl, hK⟩
                    refine d_take (i := 46) (v := undef) (l' := #[true, true, true, true, true, true, true, true, true, true, true, true, true, true, true, true, true, true, true, true, true, true, true, true, true, true, true, true, true, true, true, true, true, true, true, true, true, true, true, true, true, true, true, true, true, true, true, false, false, false]) rfl (by kernel_rfl) (by kernel_rfl) (by kernel_rfl) rfl rfl (fun _ _ _ h => h) hS12 (fun w hJ K hK => ?_) ?_
                    · refine o_off rfl rfl ?_
                      exact ⟨rfl, hK⟩
                    refine d_take (i := 47) (v := undef) (l' := #[true, true, true, true, true, true, true, true, true, true, true, true, true, true, true, true, true, true, true, true, true, true, true, true, true, true, true, true, true, true, true, true, true, true, true, true, true, true, true, true, true, true, true, true, true, true, true, true, false, false]) rfl (by kernel_rfl) (by kernel_rfl) (by kernel_rfl) rfl rfl (fun _ _ _ h => h) hS12 (fun w hJ K hK => ?_) ?_
                    · refine o_off rfl rfl ?_
                      exact ⟨rfl, hK⟩
                    refine d_take (i := 48) (v := undef) (l' := #[true, true, true, true, true, true, true, true, true, true, true, true, true, true, true, true, true, true, true, true, true, true, true, true, true, true, true, true, true, true, true, true, true, true, true, true, true, true, true, true, true, true, true, true, true, true, true, true, true, false]) rfl (by kernel_rfl) (by kernel_rfl) (by kernel_rfl) rfl rfl (fun _ _ _ h => h) hS12 (fun w hJ K hK => ?_) ?_
                    · refine o_off rfl rfl ?_
                      exact ⟨rfl, hK⟩
                    refine d_take (i := 49) (v := (.bool true)) (l' := #[true, true, true, true, true, true, true, true, true, true, true, true, true, true, true, true, true, true, true, true, true, true, true, true, true, true, true, true, true, true, true, true, true, true, true, true, true, true, true, true, true, true, true, true, true, true, true, true, true, true]) rfl (by kernel_rfl) (by kernel_rfl) (by kernel_rfl) rfl rfl (fun _ _ _ h => h) hS12 (fun w hJ K hK => ?_) ?_
                    · refine o_pick_t (v := (.bool true)) rfl rfl ?_
                      exact ⟨rfl, hK⟩
                    refine d_done (by kernel_rfl) ?_
                    refine then_n ?_
                    refine if_t rfl ?_
                    refine seq_reg ?_
                    refine o_assign (v := (.bool false)) rfl ?_
                    refine wpList_nil ?_
                    refine then_n ?_
                    refine wp_ret ?_
                    refine blk_r ?_
                    refine then_r ?_
                    refine then_r ?_
                    refine blk_r ?_
                    refine then_r ?_
                    refine blk_r ?_
                    refine then_r ?_
                    refine then_r ?_
                    refine blk_r ?_
                    refine then_r ?_
                    refine ret1 rfl (show ev _ _ _ = (.bool false) from rfl) ?_
                    exact ⟨false, rfl, hS12.done.forget, hP⟩
                · replace hP := hP.2 (by simp [hb4])
                  refine d_take (i := 25) (v := (.bool true)) (l' := #[true, true, true, true, true, true, true, true, true, true, true, true, true, true, true, true, true, true, true, true, true, true, true, true, true, true, false, false, false, false, false, false, false, false, false, false, false, false, false, false, false, false, false, false, false, false, false, false, false, false]) rfl (by kernel_rfl) (by kernel_rfl) (by kernel_rfl) rfl rfl (fun _ _ _ h => h) hS11 (fun w hJ K hK => ?_) ?_
                  · refine o_move (v := (.bool true)) (congrArg Value.bool (congrArg Bool.not hb4)) ?_
                    exact ⟨rfl, hK⟩
                  refine d_take (i := 26) (v := undef) (l' := #[true, true, true, true, true, true, true, true, true, true, true, true, true, true, true, true, true, true, true, true, true, true, true, true, true, true, true, false, false, false, false, false, false, false, false, false, false, false, false, false, false, false, false, false, false, false, false, false, false, false]) rfl (by kernel_rfl) (by kernel_rfl) (by kernel_rfl) rfl rfl (fun _ _ _ h => h) hS11 (fun w hJ K hK => ?_) ?_
                  · refine o_off rfl rfl ?_
                    exact ⟨rfl, hK⟩
                  refine d_take (i := 27) (v := undef) (l' := #[true, true, true, true, true, true, true, true, true, true, true, true, true, true, true, true, true, true, true, true, true, true, true, true, true, true, true, true, false, false, false, false, false, false, false, false, false, false, false, false, false, false, false, false, false, false, false, false, false, false]) rfl (by kernel_rfl) (by kernel_rfl) (by kernel_rfl) rfl rfl (fun _ _ _ h => h) hS11 (fun w hJ K hK => ?_) ?_
                  · refine o_off rfl rfl ?_
                    exact ⟨rfl, hK⟩
                  refine d_take (i := 28) (v := undef) (l' := #[true, true, true, true, true, true, true, true, true, true, true, true, true, true, true, true, true, true, true, true, true, true, true, true, true, true, true, true, true, false, false, false, false, false, false, false, false, false, false, false, false, false, false, false, false, false, false, false, false, false]) rfl (by kernel_rfl) (by kernel_rfl) (by kernel_rfl) rfl rfl (fun _ _ _ h => h) hS11 (fun w hJ K hK => ?_) ?_
                  · refine o_off rfl rfl ?_
                    exact ⟨rfl, hK⟩
                  refine d_take (i := 29) (v := undef) (l' := #[true, true, true, true, true, true, true, true, true, true, true, true, true, true, true, true, true, true, true, true, true, true, true, true, true, true, true, true, true, true, false, false, false, false, false, false, false, false, false, false, false, false, false, false, false, false, false, false, false, false]) rfl (by kernel_rfl) (by kernel_rfl) (by kernel_rfl) rfl rfl (fun _ _ _ h => h) hS11 (fun w hJ K hK => ?_) ?_
                  · refine o_off rfl rfl ?_
                    exact ⟨rfl, hK⟩
                  refine d_take (i := 30) (v := undef) (l' := #[true, true, true, true, true, true, true, true, true, true, true, true, true, true, true, true, true, true, true, true, true, true, true, true, true, true, true, true, true, true, true, false, false, false, false, false, false, false, false, false, false, false, false, false, false, false, false, false, false, false]) rfl (by kernel_rfl) (by kernel_rfl) (by kernel_rfl) rfl rfl (fun _ _ _ h => h) hS11 (fun w hJ K hK => ?_) ?_
                  · refine o_off rfl rfl ?_
                    exact ⟨rfl, hK⟩
                  refine d_take (i := 31) (v := undef) (l' := #[true, true, true, true, true, true, true, true, true, true, true, true, true, true, true, true, true, true, true, true, true, true, true, true, true, true, true, true, true, true, true, true, false, false, false, false, false, false, false, false, false, false, false, false, false, false, false, false, false, false]) rfl (by kernel_rfl) (by kernel_rfl) (by kernel_rfl) rfl rfl (fun _ _ _ h => h) hS11 (fun w hJ K hK => ?_) ?_
                  · refine o_off rfl rfl ?_
                    exact ⟨rfl, hK⟩
                  refine d_take (i := 32) (v := undef) (l' := #[true, true, true, true, true, true, true, true, true, true, true, true, true, true, true, true, true, true, true, true, true, true, true, true, true, true, true, true, true, true, true, true, true, false, false, false, false, false, false, false, false, false, false, false, false, false, false, false, false, false]) rfl (by kernel_rfl) (by kernel_rfl) (by kernel_rfl) rfl rfl (fun _ _ _ h => h) hS11 (fun w hJ K hK => ?_) ?_
                  · refine o_off rfl rfl ?_
                    exact ⟨rfl, hK⟩
                  refine d_take (i := 33) (v := undef) (l' := #[true, true, true, true, true, true, true, true, true, true, true, true, true, true, true, true, true, true, true, true, true, true, true, true, true, true, true, true, true, true, true, true, true, true, false, false, false, false, false, false, false, false, false, false, false, false, false, false, false, false]) rfl (by kernel_rfl) (by kernel_rfl) (by kernel_rfl) rfl rfl (fun _ _ _ h => h) hS11 (fun w hJ K hK => ?_) ?_
                  · refine o_off rfl rfl ?_
                    exact ⟨rfl, hK⟩
                  refine d_take (i := 34) (v := undef) (l' := #[true, true, true, true, true, true, true, true, true, true, true, true, true, true, true, true, true, true, true, true, true, true, true, true, true, true, true, true, true, true, true, true, true, true, true, false, false, false, false, false, false, false, false, false, false, false, false, false, false, false]) rfl (by kernel_rfl) (by kernel_rfl) (by kernel_rfl) rfl rfl (fun _ _ _ h => h) hS11 (fun w hJ K hK => ?_) ?_
                  · refine o_off rfl rfl ?_
                    exact ⟨rfl, hK⟩
                  refine d_take (i := 35) (v := undef) (l' := #[true, true, true, true, true, true, true, true, true, true, true, true, true, true, true, true, true, true, true, true, true, true, true, true, true, true, true, true, true, true, true, true, true, true, true, true, false, false, false, false, false, false, false, false, false, false, false, false, false, false]) rfl (by kernel_rfl) (by kernel_rfl) (by kernel_rfl) rfl rfl (fun _ _ _ h => h) hS11 (fun w hJ K hK => ?_) ?_
                  · refine o_off rfl rfl ?_
                    exact ⟨rfl, hK⟩
                  refine d_take (i := 36) (v := (.bool true)) (l' := #[true, true, true, true, true, true, true, true, true, true, true, true, true, true, true, true, true, true, true, true, true, true, true, true, true, true, true, true, true, true, true, true, true, true, true, true, true, false, false, false, false, false, false, false, false, false, false, false, false, false]) rfl (by kernel_rfl) (by kernel_rfl) (by kernel_rfl) rfl rfl (fun _ _ _ h => h) hS11 (fun w hJ K hK => ?_) ?_
                  · refine o_pick_t (v := (.bool true)) rfl rfl ?_
                    exact ⟨rfl, hK⟩
                  refine d_take (i := 37) (v := (.bool true)) (l' := #[true, true, true, true, true, true, true, true, true, true, true, true, true, true, true, true, true, true, true, true, true, true, true, true, true, true, true, true, true, true, true, true, true, true, true, true, true, true, false, false, false, false, false, false, false, false, false, false, false, false]) rfl (by kernel_rfl) (by kernel_rfl) (by kernel_rfl) rfl rfl (fun _ _ _ h => h) hS11 (fun w hJ K hK => ?_) ?_
                  · refine o_move (v := (.bool true)) rfl ?_
                    exact ⟨rfl, hK⟩
                  refine d_take (i := 38) (v := undef) (l' := #[true, true, true, true, true, true, true, true, true, true, true, true, true, true, true, true, true, true, true, true, true, true, true, true, true, true, true, true, true, true, true, true, true, true, true, true, true, true, true, false, false, false, false, false, false, false, false, false, false, false]) rfl (by kernel_rfl) (by kernel_rfl) (by kernel_rfl) rfl rfl (fun _ _ _ h => h) hS11 (fun w hJ K hK => ?_) ?_
                  · refine o_off rfl rfl ?_
                    exact ⟨rfl, hK⟩
                  refine d_take (i := 39) (v := undef) (l' := #[true, true, true, true, true, true, true, true, true, true, true, true, true, true, true, true, true, true, true, true, true, true, true, true, true, true, true, true, true, true, true, true, true, true, true, true, true, true, true, true, false, false, false, false, false, false, false, false, false, false]) rfl (by kernel_rfl) (by kernel_rfl) (by kernel_rfl) rfl rfl (fun _ _ _ h => h) hS11 (fun w hJ K hK => ?_) ?_
                  · refine o_off rfl rfl ?_
                    exact ⟨rfl, hK⟩
                  refine d_take (i := 40) (v := undef) (l' := #[true, true, true, true, true, true, true, true, true, true, true, true, true, true, true, true, true, true, true, true, true, true, true, true, true, true, true, true, true, true, true, true, true, true, true, true, true, true, true, true, true, false, false, false, false, false, false, false, false, false]) rfl (by kernel_rfl) (by kernel_rfl) (by kernel_rfl) rfl rfl (fun _ _ _ h => h) hS11 (fun w hJ K hK => ?_) ?_
                  · refine o_off rfl rfl ?_
                    exact ⟨rfl, hK⟩
                  refine d_take (i := 41) (v := undef) (l' := #[true, true, true, true, true, true, true, true, true, true, true, true, true, true, true, true, true, true, true, true, true, true, true, true, true, true, true, true, true, true, true, true, true, true, true, true, true, true, true, true, true, true, false, false, false, false, false, false, false, false]) rfl (by kernel_rfl) (by kernel_rfl) (by kernel_rfl) rfl rfl (fun _ _ _ h => h) hS11 (fun w hJ K hK => ?_) ?_
                  · refine o_off rfl rfl ?_
                    exact ⟨rfl, hK⟩
                  refine d_take (i := 42) (v := undef) (l' := #[true, true, true, true, true, true, true, true, true, true, true, true, true, true, true, true, true, true, true, true, true, true, true, true, true, true, true, true, true, true, true, true, true, true, true, true, true, true, true, true, true, true, true, false, false, false, false, false, false, false]) rfl (by kernel_rfl) (by kernel_rfl) (by kernel_rfl) rfl rfl (fun _ _ _ h => h) hS11 (fun w hJ K hK => ?_) ?_
                  · refine o_off rfl rfl ?_
                    exact ⟨rfl, hK⟩
                  refine d_take (i := 43) (v := undef) (l' := #[true, true, true, true, true, true, true, true, true, true, true, true, true, true, true, true, true, true, true, true, true, true, true, true, true, true, true, true, true, true, true, true, true, true, true, true, true, true, true, true, true, true, true, true, false, false, false, false, false, false]) rfl (by kernel_rfl) (by kernel_rfl) (by kernel_rfl) rfl rfl (fun _ _ _ h => h) hS11 (fun w hJ K hK => ?_) ?_
                  · refine o_off rfl rfl ?_
                    exact ⟨rfl, hK⟩
                  refine d_take (i := 44) (v := undef) (l' := #[true, true, true, true, true, true, true, true, true, true, true, true, true, true, true, true, true, true, true, true, true, true, true, true, true, true, true, true, true, true, true, true, true, true, true, true, true, true, true, true, true, true, true, true, true, false, false, false, false, false]) rfl (by kernel_rfl) (by kernel_rfl) (by kernel_rfl) rfl rfl (fun _ _ _ h => h) hS11 (fun w hJ K hK => ?_) ?_
                  · refine o_off rfl rfl ?_
                    exact ⟨rfl, hK⟩
                  refine d_take (i := 45) (v := undef) (l' := #[true, true, true, true, true, true, true, true, true, true, true, true, true, true, true, true, true, true, true, true, true, true, true, true, true, true, true, true, true, true, true, true, true, true, true, true, true, true, true, true, true, true, true, true, true, true, false, false, false, false]) rfl (by kernel_rfl) (by kernel_rfl) (by kernel_rfl) rfl rfl (fun _ _ _ h => h) hS11 (fun w hJ K hK => ?_) ?_
                  · refine o_off rfl rfl ?_
                    exact ⟨rfl, hK⟩
                  refine d_take (i := 46) (v := undef) (l' := #[true, true, true, true, true, true, true, true, true, true, true, true, true, true, true, true, true, true, true, true, true, true, true, true, true, true, true, true, true, true, true, true, true, true, true, true, true, true, true, true, true, true, true, true, true, true, true, false, false, false]) rfl (by kernel_rfl) (by kernel_rfl) (by kernel_rfl) rfl rfl (fun _ _ _ h => h) hS11 (fun w hJ K hK => ?_) ?_
                  · refine o_off rfl rfl ?_
                    exact ⟨rfl, hK⟩
                  refine d_take (i := 47) (v := undef) (l' := #[true, true, true, true, true, true, true, true, true, true, true, true, true, true, true, true, true, true, true, true, true, true, true, true, true, true, true, true, true, true, true, true, true, true, true, true, true, true, true, true, true, true, true, true, true, true, true, true, false, false]) rfl (by kernel_rfl) (by kernel_rfl) (by kernel_rfl) rfl rfl (fun _ _ _ h => h) hS11 (fun w hJ K hK => ?_) ?_
                  · refine o_off rfl rfl ?_
                    exact ⟨rfl, hK⟩
                  refine d_take (i := 48) (v := undef) (l' := #[true, true, true, true, true, true, true, true, true, true, true, true, true, true, true, true, true, true, true, true, true, true, true, true, true, true, true, true, true, true, true, true, true, true, true, true, true, true, true, true, true, true, true, true, true, true, true, true, true, false]) rfl (by kernel_rfl) (by kernel_rfl) (by kernel_rfl) rfl rfl (fun _ _ _ h => h) hS11 (fun w hJ K hK => ?_) ?_
                  · refine o_off rfl rfl ?_
                    exact ⟨rfl, hK⟩
                  refine d_take (i := 49) (v := (.bool true)) (l' := #[true, true, true, true, true, true, true, true, true, true, true, true, true, true, true, true, true, true, true, true, true, true, true, true, true, true, true, true, true, true, true, true, true, true, true, true, true, true, true, true, true, true, true, true, true, true, true, true, true, true]) rfl (by kernel_rfl) (by kernel_rfl) (by kernel_rfl) rfl rfl (fun _ _ _ h => h) hS11 (fun w hJ K hK => ?_) ?_
                  · refine o_pick_t (v := (.bool true)) rfl rfl ?_
                    exact ⟨rfl, hK⟩
                  refine d_done (by kernel_rfl) ?_
                  refine then_n ?_
                  refine if_t rfl ?_
                  refine seq_reg ?_
                  refine o_assign (v := (.bool false)) rfl ?_
                  refine wpList_nil ?_
                  refine then_n ?_
                  refine wp_ret ?_
                  refine blk_r ?_
                  refine then_r ?_
                  refine then_r ?_
                  refine blk_r ?_
                  refine then_r ?_
                  refine blk_r ?_
                  refine then_r ?_
                  refine then_r ?_
                  refine blk_r ?_
                  refine then_r ?_
                  refine ret1 rfl (show ev _ _ _ = (.bool false) from rfl) ?_
                  exact ⟨false, rfl, hS11.done.forget, hP⟩
              · replace hP := hP.2 hb3
                refine d_take (i := 14) (v := (.bool true)) (l' := #[true, true, true, true, true, true, true, true, true, true, true, true, true, true, true, false, false, false, false, false, false, false, false, false, false, false, false, false, false, false, false, false, false, false, false, false, false, false, false, false, false, false, false, false, false, false, false, false, false, false]) rfl (by kernel_rfl) (by kernel_rfl) (by kernel_rfl) rfl rfl (fun _ _ _ h => h) hS9 (fun w hJ K hK => ?_) ?_
                · refine o_move (v := (.bool true)) (congrArg Value.bool (congrArg Bool.not (decide_eq_false hb3))) ?_
                  exact ⟨rfl, hK⟩
                refine d_take (i := 15) (v := undef) (l' := #[true, true, true, true, true, true, true, true, true, true, true, true, true, true, true, true, false, false, false, false, false, false, false, false, false, false, false, false, false, false, false, false, false, false, false, false, false, false, false, false, false, false, false, false, false, false, false, false, false, false]) rfl (by kernel_rfl) (by kernel_rfl) (by kernel_rfl) rfl rfl (fun _ _ _ h => h) hS9 (fun w hJ K hK => ?_) ?_
                · refine o_off rfl rfl ?_
                  exact ⟨rfl, hK⟩
                refine d_take (i := 16) (v := undef) (l' := #[true, true, true, true, true, true, true, true, true, true, true, true, true, true, true, true, true, false, false, false, false, false, false, false, false, false, false, false, false, false, false, false, false, false, false, false, false, false, false, false, false, false, false, false, false, false, false, false, false, false]) rfl (by kernel_rfl) (by kernel_rfl) (by kernel_rfl) rfl rfl (fun _ _ _ h => h) hS9 (fun w hJ K hK => ?_) ?_
                · refine o_off rfl rfl ?_
                  exact ⟨rfl, hK⟩
                refine d_take (i := 17) (v := undef) (l' := #[true, true, true, true, true, true, true, true, true, true, true, true, true, true, true, true, true, true, false, false, false, false, false, false, false, false, false, false, false, false, false, false, false, false, false, false, false, false, false, false, false, false, false, false, false, false, false, false, false, false]) rfl (by kernel_rfl) (by kernel_rfl) (by kernel_rfl) rfl rfl (fun _ _ _ h => h) hS9 (fun w hJ K hK => ?_) ?_
                · refine o_off rfl rfl ?_
                  exact ⟨rfl, hK⟩
                refine d_take (i := 18) (v := undef) (l' := #[true, true, true, true, true, true, true, true, true, true, true, true, true, true, true, true, true, true, true, false, false, false, false, false, false, false, false, false, false, false, false, false, false, false, false, false, false, false, false, false, false, false, false, false, false, false, false, false, false, false]) rfl (by kernel_rfl) (by kernel_rfl) (by kernel_rfl) rfl rfl (fun _ _ _ h => h) hS9 (fun w hJ K hK => ?_) ?_
                · refine o_off rfl rfl ?_
                  exact ⟨rfl, hK⟩
                refine d_take (i := 19) (v := undef) (l' := #[true, true, true, true, true, true, true, true, true, true, true, true, true, true, true, true, true, true, true, true, false, false, false, false, false, false, false, false, false, false, false, false, false, false, false, false, false, false, false, false, false, false, false, false, false, false, false, false, false, false]) rfl (by kernel_rfl) (by kernel_rfl) (by kernel_rfl) rfl rfl (fun _ _ _ h => h) hS9 (fun w hJ K hK => ?_) ?_
                · refine o_off rfl rfl ?_
                  exact ⟨rfl, hK⟩
                refine d_take (i := 20) (v := undef) (l' := #[true, true, true, true, true, true, true, true, true, true, true, true, true, true, true, true, true, true, true, true, true, false, false, false, false, false, false, false, false, false, false, false, false, false, false, false, false, false, false, false, false, false, false, false, false, false, false, false, false, false]) rfl (by kernel_rfl) (by kernel_rfl) (by kernel_rfl) rfl rfl (fun _ _ _ h => h) hS9 (fun w hJ K hK => ?_) ?_
                · refine o_off rfl rfl ?_
                  exact ⟨rfl, hK⟩
                refine d_take (i := 21) (v := undef) (l' := #[true, true, true, true, true, true, true, true, true, true, true, true, true, true, true, true, true, true, true, true, true, true, false, false, false, false, false, false, false, false, false, false, false, false, false, false, false, false, false, false, false, false, false, false, false, false, false, false, false, false]) rfl (by kernel_rfl) (by kernel_rfl) (by kernel_rfl) rfl rfl (fun _ _ _ h => h) hS9 (fun w hJ K hK => ?_) ?_
                · refine o_off rfl rfl ?_
                  exact ⟨rfl, hK⟩
                refine d_take (i := 22) (v := undef) (l' := #[true, true, true, true, true, true, true, true, true, true, true, true, true, true, true, true, true, true, true, true, true, true, true, false, false, false, false, false, false, false, false, false, false, false, false, false, false, false, false, false, false, false, false, false, false, false, false, false, false, false]) rfl (by kernel_rfl) (by kernel_rfl) (by kernel_rfl) rfl rfl (fun _ _ _ h => h) hS9 (fun w hJ K hK => ?_) ?_
                · refine o_off rfl rfl ?_
                  exact ⟨rfl, hK⟩
                refine d_take (i := 23) (v := undef) (l' := #[true, true, true, true, true, true, true, true, true, true, true, true, true, true, true, true, true, true, true, true, true, true, true, true, false, false, false, false, false, false, false, false, false, false, false, false, false, false, false, false, false, false, false, false, false, false, false, false, false, false]) rfl (by kernel_rfl) (by kernel_rfl) (by kernel_rfl) rfl rfl (fun _ _ _ h => h) hS9 (fun w hJ K hK => ?_) ?_
                · refine o_off rfl rfl ?_
                  exact ⟨rfl, hK⟩
                refine d_take (i := 24) (v := (.bool true)) (l' := #[true, true, true, true, true, true, true, true, true, true, true, true, true, true, true, true, true, true, true, true, true, true, true, true, true, false, false, false, false, false, false, false, false, false, false, false, false, false, false, false, false, false, false, false, false, false, false, false, false, false]) rfl (by kernel_rfl) (by kernel_rfl) (by kernel_rfl) rfl rfl (fun _ _ _ h => h) hS9 (fun w hJ K hK => ?_) ?_
                · refine o_pick_t (v := (.bool true)) rfl rfl ?_
                  exact ⟨rfl, hK⟩
                refine d_take (i := 25) (v := (.bool true)) (l' := #[true, true, true, true, true, true, true, true, true, true, true, true, true, true, true, true, true, true, true, true, true, true, true, true, true, true, false, false, false, false, false, false, false, false, false, false, false, false, false, false, false, false, false, false, false, false, false, false, false, false]) rfl (by kernel_rfl) (by kernel_rfl) (by kernel_rfl) rfl rfl (fun _ _ _ h => h) hS9 (fun w hJ K hK => ?_) ?_
                · refine o_move (v := (.bool true)) rfl ?_
                  exact ⟨rfl, hK⟩
                refine d_take (i := 26) (v := undef) (l' := #[true, true, true, true, true, true, true, true, true, true, true, true, true, true, true, true, true, true, true, true, true, true, true, true, true, true, true, false, false, false, false, false, false, false, false, false, false, false, false, false, false, false, false, false, false, false, false, false, false, false]) rfl (by kernel_rfl) (by kernel_rfl) (by kernel_rfl) rfl rfl (fun _ _ _ h => h) hS9 (fun w hJ K hK => ?_) ?_
                · refine o_off rfl rfl ?_
                  exact ⟨rfl, hK⟩
                refine d_take (i := 27) (v := undef) (l' := #[true, true, true, true, true, true, true, true, true, true, true, true, true, true, true, true, true, true, true, true, true, true, true, true, true, true, true, true, false, false, false, false, false, false, false, false, false, false, false, false, false, false, false, false, false, false, false, false, false, false]) rfl (by kernel_rfl) (by kernel_rfl) (by kernel_rfl) rfl rfl (fun _ _ _ h => h) hS9 (fun w hJ K hK => ?_) ?_
                · refine o_off rfl rfl ?_
                  exact ⟨rfl, hK⟩
                refine d_take (i := 28) (v := undef) (l' := #[true, true, true, true, true, true, true, true, true, true, true, true, true, true, true, true, true, true, true, true, true, true, true, true, true, true, true, true, true, false, false, false, false, false, false, false, false, false, false, false, false, false, false, false, false, false, false, false, false, false]) rfl (by kernel_rfl) (by kernel_rfl) (by kernel_rfl) rfl rfl (fun _ _ _ h => h) hS9 (fun w hJ K hK => ?_) ?_
                · refine o_off rfl rfl ?_
                  exact ⟨rfl, hK⟩
                refine d_take (i := 29) (v := undef) (l' := #[true, true, true, true, true, true, true, true, true, true, true, true, true, true, true, true, true, true, true, true, true, true, true, true, true, true, true, true, true, true, false, false, false, false, false, false, false, false, false, false, false, false, false, false, false, false, false, false, false, false]) rfl (by kernel_rfl) (by kernel_rfl) (by kernel_rfl) rfl rfl (fun _ _ _ h => h) hS9 (fun w hJ K hK => ?_) ?_
                · refine o_off rfl rfl ?_
                  exact ⟨rfl, hK⟩
                refine d_take (i := 30) (v := undef) (l' := #[true, true, true, true, true, true, true, true, true, true, true, true, true, true, true, true, true, true, true, true, true, true, true, true, true, true, true, true, true, true, true, false, false, false, false, false, false, false, false, false, false, false, false, false, false, false, false, false, false, false]) rfl (by kernel_rfl) (by kernel_rfl) (by kernel_rfl) rfl rfl (fun _ _ _ h => h) hS9 (fun w hJ K hK => ?_) ?_
                · refine o_off rfl rfl ?_
                  exact ⟨rfl, hK⟩
                refine d_take (i := 31) (v := undef) (l' := #[true, true, true, true, true, true, true, true, true, true, true, true, true, true, true, true, true, true, true, true, true, true, true, true, true, true, true, true, true, true, true, true, false, false, false, false, false, false, false, false, false, false, false, false, false, false, false, false, false, false]) rfl (by kernel_rfl) (by kernel_rfl) (by kernel_rfl) rfl rfl (fun _ _ _ h => h) hS9 (fun w hJ K hK => ?_) ?_
                · refine o_off rfl rfl ?_
                  exact ⟨rfl, hK⟩
                refine d_take (i := 32) (v := undef) (l' := #[true, true, true, true, true, true, true, true, true, true, true, true, true, true, true, true, true, true, true, true, true, true, true, true, true, true, true, true, true, true, true, true, true, false, false, false, false, false, false, false, false, false, false, false, false, false, false, false, false, false]) rfl (by kernel_rfl) (by kernel_rfl) (by kernel_rfl) rfl rfl (fun _ _ _ h => h) hS9 (fun w hJ K hK => ?_) ?_
                · refine o_off rfl rfl ?_
                  exact ⟨rfl, hK⟩
                refine d_take (i := 33) (v := undef) (l' := #[true, true, true, true, true, true, true, true, true, true, true, true, true, true, true, true, true, true, true, true, true, true, true, true, true, true, true, true, true, true, true, true, true, true, false, false, false, false, false, false, false, false, false, false, false, false, false, false, false, false]) rfl (by kernel_rfl) (by kernel_rfl) (by kernel_rfl) rfl rfl (fun _ _ _ h => h) hS9 (fun w hJ K hK => ?_) ?_
                · refine o_off rfl rfl ?_
                  exact ⟨rfl, hK⟩
                refine d_take (i := 34) (v := undef) (l' := #[true, true, true, true, true, true, true, true, true, true, true, true, true, true, true, true, true, true, true, true, true, true, true, true, true, true, true, true, true, true, true, true, true, true, true, false, false, false, false, false, false, false, false, false, false, false, false, false, false, false]) rfl (by kernel_rfl) (by kernel_rfl) (by kernel_rfl) rfl rfl (fun _ _ _ h => h) hS9 (fun w hJ K hK => ?_) ?_
                · refine o_off rfl rfl ?_
                  exact ⟨rfl, hK⟩
                refine d_take (i := 35) (v := undef) (l' := #[true, true, true, true, true, true, true, true, true, true, true, true, true, true, true, true, true, true, true, true, true, true, true, true, true, true, true, true, true, true, true, true, true, true, true, true, false, false, false, false, false, false, false, false, false, false, false, false, false, false]) rfl (by kernel_rfl) (by kernel_rfl) (by kernel_rfl) rfl rfl (fun _ _ _ h => h) hS9 (fun w hJ K hK => ?_) ?_
                · refine o_off rfl rfl ?_
                  exact ⟨rfl, hK⟩
                refine d_take (i := 36) (v := (.bool true)) (l' := #[true, true, true, true, true, true, true, true, true, true, true, true, true, true, true, true, true, true, true, true, true, true, true, true, true, true, true, true, true, true, true, true, true, true, true, true, true, false, false, false, false, false, false, false, false, false, false, false, false, false]) rfl (by kernel_rfl) (by kernel_rfl) (by kernel_rfl) rfl rfl (fun _ _ _ h => h) hS9 (fun w hJ K hK => ?_) ?_
                · refine o_pick_t (v := (.bool true)) rfl rfl ?_
                  exact ⟨rfl, hK⟩
                refine d_take (i := 37) (v := (.bool true)) (l' := #[true, true, true, true, true, true, true, true, true, true, true, true, true, true, true, true, true, true, true, true, true, true, true, true, true, true, true, true, true, true, true, true, true, true, true, true, true, true, false, false, false, false, false, false, false, false, false, false, false, false]) rfl (by kernel_rfl) (by kernel_rfl) (by kernel_rfl) rfl rfl (fun _ _ _ h => h) hS9 (fun w hJ K hK => ?_) ?_
                · refine o_move (v := (.bool true)) rfl ?_
                  exact ⟨rfl, hK⟩
                refine d_take (i := 38) (v := undef) (l' := #[true, true, true, true, true, true, true, true, true, true, true, true, true, true, true, true, true, true, true, true, true, true, true, true, true, true, true, true, true, true, true, true, true, true, true, true, true, true, true, false, false, false, false, false, false, false, false, false, false, false]) rfl (by kernel_rfl) (by kernel_rfl) (by kernel_rfl) rfl rfl (fun _ _ _ h => h) hS9 (fun w hJ K hK => ?_) ?_
                · refine o_off rfl rfl ?_
                  exact ⟨rfl, hK⟩
                refine d_take (i := 39) (v := undef) (l' := #[true, true, true, true, true, true, true, true, true, true, true, true, true, true, true, true, true, true, true, true, true, true, true, true, true, true, true, true, true, true, true, true, true, true, true, true, true, true, true, true, false, false, false, false, false, false, false, false, false, false]) rfl (by kernel_rfl) (by kernel_rfl) (by kernel_rfl) rfl rfl (fun _ _ _ h => h) hS9 (fun w hJ K hK => ?_) ?_
                · refine o_off rfl rfl ?_
                  exact ⟨rfl, hK⟩
                refine d_take (i := 40) (v := undef) (l' := #[true, true, true, true, true, true, true, true, true, true, true, true, true, true, true, true, true, true, true, true, true, true, true, true, true, true, true, true, true, true, true, true, true, true, true, true, true, true, true, true, true, false, false, false, false, false, false, false, false, false]) rfl (by kernel_rfl) (by kernel_rfl) (by kernel_rfl) rfl rfl (fun _ _ _ h => h) hS9 (fun w hJ K hK => ?_) ?_
                · refine o_off rfl rfl ?_
                  exact ⟨rfl, hK⟩
                refine d_take (i := 41) (v := undef) (l' := #[true, true, true, true, true, true, true, true, true, true, true, true, true, true, true, true, true, true, true, true, true, true, true, true, true, true, true, true, true, true, true, true, true, true, true, true, true, true, true, true, true, true, false, false, false, false, false, false, false, false]) rfl (by kernel_rfl) (by kernel_rfl) (by kernel_rfl) rfl rfl (fun _ _ _ h => h) hS9 (fun w hJ K hK => ?_) ?_
                · refine o_off rfl rfl ?_
                  exact ⟨rfl, hK⟩
                refine d_take (i := 42) (v := undef) (l' := #[true, true, true, true, true, true, true, true, true, true, true, true, true, true, true, true, true, true, true, true, true, true, true, true, true, true, true, true, true, true, true, true, true, true, true, true, true, true, true, true, true, true, true, false, false, false, false, false, false, false]) rfl (by kernel_rfl) (by kernel_rfl) (by kernel_rfl) rfl rfl (fun _ _ _ h => h) hS9 (fun w hJ K hK => ?_) ?_
                · refine o_off rfl rfl ?_
                  exact ⟨rfl, hK⟩
                refine d_take (i := 43) (v := undef) (l' := #[true, true, true, true, true, true, true, true, true, true, true, true, true, true, true, true, true, true, true, true, true, true, true, true, true, true, true, true, true, true, true, true, true, true, true, true, true, true, true, true, true, true, true, true, false, false, false, false, false, false]) rfl (by kernel_rfl) (by kernel_rfl) (by kernel_rfl) rfl rfl (fun _ _ _ h => h) hS9 (fun w hJ K hK => ?_) ?_
                · refine o_off rfl rfl ?_
                  exact ⟨rfl, hK⟩
                refine d_take (i := 44) (v := undef) (l' := #[true, true, true, true, true, true, true, true, true, true, true, true, true, true, true, true, true, true, true, true, true, true, true, true, true, true, true, true, true, true, true, true, true, true, true, true, true, true, true, true, true, true, true, true, true, false, false, false, false, false]) rfl (by kernel_rfl) (by kernel_rfl) (by kernel_rfl) rfl rfl (fun _ _ _ h => h) hS9 (fun w hJ K hK => ?_) ?_
                · refine o_off rfl rfl ?_
                  exact ⟨rfl, hK⟩
                refine d_take (i := 45) (v := undef) (l' := #[true, true, true, true, true, true, true, true, true, true, true, true, true, true, true, true, true, true, true, true, true, true, true, true, true, true, true, true, true, true, true, true, true, true, true, true, true, true, true, true, true, true, true, true, true, true, false, false, false, false]) rfl (by kernel_rfl) (by kernel_rfl) (by kernel_rfl) rfl rfl (fun _ _ _ h => h) hS9 (fun w hJ K hK => ?_) ?_
                · refine o_off rfl rfl ?_
                  exact ⟨rfl, hK⟩
                refine d_take (i := 46) (v := undef) (l' := #[true, true, true, true, true, true, true, true, true, true, true, true, true, true, true, true, true, true, true, true, true, true, true, true, true, true, true, true, true, true, true, true, true, true, true, true, true, true, true, true, true, true, true, true, true, true, true, false, false, false]) rfl (by kernel_rfl) (by kernel_rfl) (by kernel_rfl) rfl rfl (fun _ _ _ h => h) hS9 (fun w hJ K hK => ?_) ?_
                · refine o_off rfl rfl ?_
                  exact ⟨rfl, hK⟩
                refine d_take (i := 47) (v := undef) (l' := #[true, true, true, true, true, true, true, true, true, true, true, true, true, true, true, true, true, true, true, true, true, true, true, true, true, true, true, true, true, true, true, true, true, true, true, true, true, true, true, true, true, true, true, true, true, true, true, true, false, false]) rfl (by kernel_rfl) (by kernel_rfl) (by kernel_rfl) rfl rfl (fun _ _ _ h => h) hS9 (fun w hJ K hK => ?_) ?_
                · refine o_off rfl rfl ?_
                  exact ⟨rfl, hK⟩
                refine d_take (i := 48) (v := undef) (l' := #[true, true, true, true, true, true, true, true, true, true, true, true, true, true, true, true, true, true, true, true, true, true, true, true, true, true, true, true, true, true, true, true, true, true, true, true, true, true, true, true, true, true, true, true, true, true, true, true, true, false]) rfl (by kernel_rfl) (by kernel_rfl) (by kernel_rfl) rfl rfl (fun _ _ _ h => h) hS9 (fun w hJ K hK => ?_) ?_
                · refine o_off rfl rfl ?_
                  exact ⟨rfl, hK⟩
                refine d_take (i := 49) (v := (.bool true)) (l' := #[true, true, true, true, true, true, true, true, true, true, true, true, true, true, true, true, true, true, true, true, true, true, true, true, true, true, true, true, true, true, true, true, true, true, true, true, true, true, true, true, true, true, true, true, true, true, true, true, true, true]) rfl (by kernel_rfl) (by kernel_rfl) (by kernel_rfl) rfl rfl (fun _ _ _ h => h) hS9 (fun w hJ K hK => ?_) ?_
                · refine o_pick_t (v := (.bool true)) rfl rfl ?_
                  exact ⟨rfl, hK⟩
                refine d_done (by kernel_rfl) ?_
                refine then_n ?_
                refine if_t rfl ?_
                refine seq_reg ?_
                refine o_assign (v := (.bool false)) rfl ?_
                refine wpList_nil ?_
                refine then_n ?_
                refine wp_ret ?_
                refine blk_r ?_
                refine then_r ?_
                refine then_r ?_
                refine blk_r ?_
                refine then_r ?_
                refine blk_r ?_
                refine then_r ?_
                refine then_r ?_
                refine blk_r ?_
                refine then_r ?_
                refine ret1 rfl (show ev _ _ _ = (.bool false) from rfl) ?_
                exact ⟨false, rfl, hS9.done.forget, hP⟩
            · replace hP := hP.2 hb2
              refine d_take (i := 2) (v := (.bool false)) (l' := #[true, true, true, false, false, false, false, false, false, false, false, false, false, false, false, false, false, false, false, false, false, false, false, false, false, false, false, false, false, false, false, false, false, false, false, false, false, false, false, false, false, false, false, false, false, false, false, false, false, false]) rfl (by kernel_rfl) (by kernel_rfl) (by kernel_rfl) rfl rfl (fun _ _ _ h => h) hS9 (fun w hJ K hK => ?_) ?_
              · refine o_move (v := (.bool false)) (congrArg Value.bool (decide_eq_false hb2)) ?_
                exact ⟨rfl, hK⟩
              refine d_take (i := 3) (v := undef) (l' := #[true, true, true, true, false, false, false, false, false, false, false, false, false, false, false, false, false, false, false, false, false, false, false, false, false, false, false, false, false, false, false, false, false, false, false, false, false, false, false, false, false, false, false, false, false, false, false, false, false, false]) rfl (by kernel_rfl) (by kernel_rfl) (by kernel_rfl) rfl rfl (fun _ _ _ h => h) hS9 (fun w hJ K hK => ?_) ?_
              · refine o_off rfl rfl ?_
                exact ⟨rfl, hK⟩
              refine d_take (i := 4) (v := undef) (l' := #[true, true, true, true, true, false, false, false, false, false, false, false, false, false, false, false, false, false, false, false, false, false, false, false, false, false, false, false, false, false, false, false, false, false, false, false, false, false, false, false, false, false, false, false, false, false, false, false, false, false]) rfl (by kernel_rfl) (by kernel_rfl) (by kernel_rfl) rfl rfl (fun _ _ _ h => h) hS9 (fun w hJ K hK => ?_) ?_
              · refine o_off rfl rfl ?_
                exact ⟨rfl, hK⟩
              refine d_take (i := 5) (v := undef) (l' := #[true, true, true, true, true, true, false, false, false, false, false, false, false, false, false, false, false, false, false, false, false, false, false, false, false, false, false, false, false, false, false, false, false, false, false, false, false, false, false, false, false, false, false, false, false, false, false, false, false, false]) rfl (by kernel_rfl) (by kernel_rfl) (by kernel_rfl) rfl rfl (fun _ _ _ h => h) hS9 (fun w hJ K hK => ?_) ?_
              · refine o_off rfl rfl ?_
                exact ⟨rfl, hK⟩
              refine d_take (i := 6) (v := undef) (l' := #[true, true, true, true, true, true, true, false, false, false, false, false, false, false, false, false, false, false, false, false, false, false, false, false, false, false, false, false, false, false, false, false, false, false, false, false, false, false, false, false, false, false, false, false, false, false, false, false, false, false]) rfl (by kernel_rfl) (by kernel_rfl) (by kernel_rfl) rfl rfl (fun _ _ _ h => h) hS9 (fun w hJ K hK => ?_) ?_
              · refine o_off rfl rfl ?_
                exact ⟨rfl, hK⟩
              refine d_take (i := 7) (v := undef) (l' := #[true, true, true, true, true, true, true, true, false, false, false, false, false, false, false, false, false, false, false, false, false, false, false, false, false, false, false, false, false, false, false, false, false, false, false, false, false, false, false, false, false, false, false, false, false, false, false, false, false, false]) rfl (by kernel_rfl) (by kernel_rfl) (by kernel_rfl) rfl rfl (fun _ _ _ h => h) hS9 (fun w hJ K hK => ?_) ?_
              · refine o_off rfl rfl ?_
                exact ⟨rfl, hK⟩
              refine d_take (i := 8) (v := undef) (l' := #[true, true, true, true, true, true, true, true, true, false, false, false, false, false, false, false, false, false, false, false, false, false, false, false, false, false, false, false, false, false, false, false, false, false, false, false, false, false, false, false, false, false, false, false, false, false, false, false, false, false]) rfl (by kernel_rfl) (by kernel_rfl) (by kernel_rfl) rfl rfl (fun _ _ _ h => h) hS9 (fun w hJ K hK => ?_) ?_
              · refine o_off rfl rfl ?_
                exact ⟨rfl, hK⟩
              refine d_take (i := 9) (v := undef) (l' := #[true, true, true, true, true, true, true, true, true, true, false, false, false, false, false, false, false, false, false, false, false, false, false, false, false, false, false, false, false, false, false, false, false, false, false, false, false, false, false, false, false, false, false, false, false, false, false, false, false, false]) rfl (by kernel_rfl) (by kernel_rfl) (by kernel_rfl) rfl rfl (fun _ _ _ h => h) hS9 (fun w hJ K hK => ?_) ?_
              · refine o_off rfl rfl ?_
                exact ⟨rfl, hK⟩
              refine d_take (i := 10) (v := undef) (l' := #[true, true, true, true, true, true, true, true, true, true, true, false, false, false, false, false, false, false, false, false, false, false, false, false, false, false, false, false, false, false, false, false, false, false, false, false, false, false, false, false, false, false, false, false, false, false, false, false, false, false]) rfl (by kernel_rfl) (by kernel_rfl) (by kernel_rfl) rfl rfl (fun _ _ _ h => h) hS9 (fun w hJ K hK => ?_) ?_
              · refine o_off rfl rfl ?_
                exact ⟨rfl, hK⟩
              refine d_take (i := 11) (v := undef) (l' := #[true, true, true, true, true, true, true, true, true, true, true, true, false, false, false, false, false, false, false, false, false, false, false, false, false, false, false, false, false, false, false, false, false, false, false, false, false, false, false, false, false, false, false, false, false, false, false, false, false, false]) rfl (by kernel_rfl) (by kernel_rfl) (by kernel_rfl) rfl rfl (fun _ _ _ h => h) hS9 (fun w hJ K hK => ?_) ?_
              · refine o_off rfl rfl ?_
                exact ⟨rfl, hK⟩
              refine d_take (i := 12) (v := undef) (l' := #[true, true, true, true, true, true, true, true, true, true, true, true, true, false, false, false, false, false, false, false, false, false, false, false, false, false, false, false, false, false, false, false, false, false, false, false, false, false, false, false, false, false, false, false, false, false, false, false, false, false]) rfl (by kernel_rfl) (by kernel_rfl) (by kernel_rfl) rfl rfl (fun _ _ _ h => h) hS9 (fun w hJ K hK => ?_) ?_
              · refine o_off rfl rfl ?_
                exact ⟨rfl, hK⟩
              refine d_take (i := 13) (v := (.bool false)) (l' := #[true, true, true, true, true, true, true, true, true, true, true, true, true, true, false, false, false, false, false, false, false, false, false, false, false, false, false, false, false, false, false, false, false, false, false, false, false, false, false, false, false, false, false, false, false, false, false, false, false, false]) rfl (by kernel_rfl) (by kernel_rfl) (by kernel_rfl) rfl rfl (fun _ _ _ h => h) hS9 (fun w hJ K hK => ?_) ?_
              · refine o_pick_f (v := (.bool false)) rfl rfl ?_
                exact ⟨rfl, hK⟩
              refine d_take (i := 14) (v := (.bool false)) (l' := #[true, true, true, true, true, true, true, true, true, true, true, true, true, true, true, false, false, false, false, false, false, false, false, false, false, false, false, false, false, false, false, false, false, false, false, false, false, false, false, false, false, false, false, false, false, false, false, false, false, false]) rfl (by kernel_rfl) (by kernel_rfl) (by kernel_rfl) rfl rfl (fun _ _ _ h => h) hS9 (fun w hJ K hK => ?_) ?_
              · refine o_move (v := (.bool false)) rfl ?_
                exact ⟨rfl, hK⟩
              refine d_take (i := 15) (v := (.slice a2 r2_.length cap2)) (l' := #[true, true, true, true, true, true, true, true, true, true, true, true, true, true, true, true, false, false, false, false, false, false, false, false, false, false, false, false, false, false, false, false, false, false, false, false, false, false, false, false, false, false, false, false, false, false, false, false, false, false]) rfl (by kernel_rfl) (by kernel_rfl) (by kernel_rfl) rfl rfl (fun _ _ _ h => h) hS9 (fun w hJ K hK => ?_) ?_
              · refine o_on rfl rfl ?_
                refine o_move (v := (.slice a2 r2_.length cap2)) rfl ?_
                exact ⟨rfl, hK⟩
              refine d_take (i := 16) (v := (.slice a3 r4_.length cap3)) (l' := #[true, true, true, true, true, true, true, true, true, true, true, true, true, true, true, true, true, false, false, false, false, false, false, false, false, false, false, false, false, false, false, false, false, false, false, false, false, false, false, false, false, false, false, false, false, false, false, false, false, false]) rfl (by kernel_rfl) (by kernel_rfl) (by kernel_rfl) rfl rfl (fun _ _ _ h => h) hS9 (fun w hJ K hK => ?_) ?_
              · refine o_on rfl rfl ?_
                refine o_move (v := (.slice a3 r4_.length cap3)) rfl ?_
                exact ⟨rfl, hK⟩
              refine d_take (i := 17) (v := (.int .i64 ((k_2 : Nat) : Int))) (l' := #[true, true, true, true, true, true, true, true, true, true, true, true, true, true, true, true, true, true, false, false, false, false, false, false, false, false, false, false, false, false, false, false, false, false, false, false, false, false, false, false, false, false, false, false, false, false, false, false, false, false]) rfl (by kernel_rfl) (by kernel_rfl) (by kernel_rfl) rfl rfl (fun _ _ _ h => h) hS9 (fun w hJ K hK => ?_) ?_
              · refine o_on rfl rfl ?_
                refine o_move (v := (.int .i64 ((k_2 : Nat) : Int))) rfl ?_
                exact ⟨rfl, hK⟩
              obtain ⟨x6_, hx6⟩ := getq (l := r4_) (k := k_2) (by have := ht4; omega)
              replace hP := hP x6_ hx6
              obtain ⟨ad5, cs5, ha5, hl6, hr10, hR5, hlt5⟩ := RSl.at hr4 hx6
              cases hR5
              refine d_take (i := 18) (v := (.pointer (some (ad5.add (k_2 * 1))))) (l' := #[true, true, true, true, true, true, true, true, true, true, true, true, true, true, true, true, true, true, true, false, false, false, false, false, false, false, false, false, false, false, false, false, false, false, false, false, false, false, false, false, false, false, false, false, false, false, false, false, false, false]) rfl (by kernel_rfl) (by kernel_rfl) (by kernel_rfl) rfl rfl (fun _ _ _ h => h) hS9 (fun w hJ K hK => ?_) ?_
              · refine o_on rfl rfl ?_
                refine o_iaddr_slice (k := k_2) (a' := (ad5.add (k_2 * 1))) (congrArg (fun z => Value.slice z _ _) ha5) rfl rfl hlt5 Try.underlying29 Try.sizeOf9 rfl ?_
                exact ⟨rfl, hK⟩
              refine d_take (i := 19) (v := (.string x6_)) (l' := #[true, true, true, true, true, true, true, true, true, true, true, true, true, true, true, true, true, true, true, true, false, false, false, false, false, false, false, false, false, false, false, false, false, false, false, false, false, false, false, false, false, false, false, false, false, false, false, false, false, false]) rfl (by kernel_rfl) (by kernel_rfl) (by kernel_rfl) rfl rfl (fun _ _ _ h => h) hS9 (fun w hJ K hK => ?_) ?_
              · refine o_on rfl rfl ?_
                refine o_load (v := (.string x6_)) rfl Try.isAgg9 (hr10.cell (View.of (Sub.trans hsub2 hsub3) hJ.view) 0 rfl rfl) ?_
                exact ⟨rfl, hK⟩
              refine d_take (i := 21) (v := (.slice a3 r4_.length cap3)) (l' := #[true, true, true, true, true, true, true, true, true, true, true, true, true, true, true, true, true, true, true, true, false, true, false, false, false, false, false, false, false, false, false, false, false, false, false, false, false, false, false, false, false, false, false, false, false, false, false, false, false, false]) rfl (by kernel_rfl) (by kernel_rfl) (by kernel_rfl) rfl rfl (fun _ _ _ h => h) hS9 (fun w hJ K hK => ?_) ?_
              · refine o_on rfl rfl ?_
                refine o_move (v := (.slice a3 r4_.length cap3)) rfl ?_
                exact ⟨rfl, hK⟩
              refine d_one (i := 20) (by kernel_rfl) rfl (l' := #[true, true, true, true, true, true, true, true, true, true, true, true, true, true, true, true, true, true, true, true, true, true, false, false, false, false, false, false, false, false, false, false, false, false, false, false, false, false, false, false, false, false, false, false, false, false, false, false, false, false]) rfl ?_
              refine o_on rfl rfl ?_
              obtain ⟨Y12, hK10, hc9⟩ := hP
              refine o_call (args := [(.slice a2 r2_.length cap2), (.string x6_)]) rfl Try.call18 (Calls.mono (w_identity_Members r2_ x6_ (.slice a2 r2_.length cap2) hS9.view (RSl.menc (Sub.trans (Sub.trans (Sub.trans hsub1 hg4.sub) hsub2) hsub3) hr2) hc9) ?_)
              rintro _ w12 ⟨r9_, v6, σ7, rfl, hg9, hr11, hY10⟩
              refine ⟨_, rfl, ?_⟩
              have hS14 := hS9.grow hg9
              replace hP := hK10 r9_ hY10
              obtain ⟨a5, cap5, rfl⟩ := hr11.shape
              refine wpList_nil ?_
              refine ⟨rfl, (hS14.less hS9 hg9.sub), wpJ_weak (J' := fun z => St ⟨w, σ, []⟩ z σ7 [vec v3 9 1 r3_.length ((r3_).flatMap encTx)]) (fun w h => (h.less hS9 hg9.sub).sublist (by first | exact List.nil_sublist _ | simp)) _ _ _ _ ?_⟩
              refine d_one (i := 22) (by kernel_rfl) rfl (l' := #[true, true, true, true, true, true, true, true, true, true, true, true, true, true, true, true, true, true, true, true, true, true, true, false, false, false, false, false, false, false, false, false, false, false, false, false, false, false, false, false, false, false, false, false, false, false, false, false, false, false]) rfl ?_
              refine o_on rfl rfl ?_
              obtain ⟨Y13, hK11, hc10⟩ := hP
              refine o_call (args := [(.slice a5 r9_.length cap5), (.slice a3 r4_.length cap3)]) rfl Try.call19 (Calls.mono (w_ref1_Same r9_ r4_ (.slice a5 r9_.length cap5) (.slice a3 r4_.length cap3) hS14.view hr11 (RSl.menc (Sub.trans (Sub.trans hsub2 hsub3) hg9.sub) hr4) hc10) ?_)
              rintro _ w13 ⟨r10_, rfl, hg10, hY11⟩
              refine ⟨_, rfl, ?_⟩
              have hS15 := hS14.grow hg10
              replace hP := hK11 r10_ hY11
              refine wpList_nil ?_
              refine ⟨rfl, hS15, ?_⟩
              refine d_take (i := 23) (v := (.bool (!r10_))) (l' := #[true, true, true, true, true, true, true, true, true, true, true, true, true, true, true, true, true, true, true, true, true, true, true, true, false, false, false, false, false, false, false, false, false, false, false, false, false, false, false, false, false, false, false, false, false, false, false, false, false, false]) rfl (by kernel_rfl) (by kernel_rfl) (by kernel_rfl) rfl rfl (fun _ _ _ h => h) hS15 (fun w hJ K hK => ?_) ?_
              · refine o_on rfl rfl ?_
                refine o_not (r := (!r10_)) rfl rfl ?_
                exact ⟨rfl, hK⟩
              refine d_take (i := 24) (v := (.bool (!r10_))) (l' := #[true, true, true, true, true, true, true, true, true, true, true, true, true, true, true, true, true, true, true, true, true, true, true, true, true, false, false, false, false, false, false, false, false, false, false, false, false, false, false, false, false, false, false, false, false, false, false, false, false, false]) rfl (by kernel_rfl) (by kernel_rfl) (by kernel_rfl) rfl rfl (fun _ _ _ h => h) hS15 (fun w hJ K hK => ?_) ?_
              · refine o_pick_f (v := (.bool (!r10_))) rfl rfl ?_
                exact ⟨rfl, hK⟩
              rcases Bool.eq_false_or_eq_true (r10_) with hb6 | hb6
              · replace hP := hP.1 hb6
                refine d_take (i := 25) (v := (.bool false)) (l' := #[true, true, true, true, true, true, true, true, true, true, true, true, true, true, true, true, true, true, true, true, true, true, true, true, true, true, false, false, false, false, false, false, false, false, false, false, false, false, false, false, false, false, false, false, false, false, false, false, false, false]) rfl (by kernel_rfl) (by kernel_rfl) (by kernel_rfl) rfl rfl (fun _ _ _ h => h) hS15 (fun w hJ K hK => ?_) ?_
                · refine o_move (v := (.bool false)) (congrArg Value.bool (congrArg Bool.not hb6)) ?_
                  exact ⟨rfl, hK⟩
                refine d_take (i := 26) (v := (.slice a2 r2_.length cap2)) (l' := #[true, true, true, true, true, true, true, true, true, true, true, true, true, true, true, true, true, true, true, true, true, true, true, true, true, true, true, false, false, false, false, false, false, false, false, false, false, false, false, false, false, false, false, false, false, false, false, false, false, false]) rfl (by kernel_rfl) (by kernel_rfl) (by kernel_rfl) rfl rfl (fun _ _ _ h => h) hS15 (fun w hJ K hK => ?_) ?_
                · refine o_on rfl rfl ?_
                  refine o_move (v := (.slice a2 r2_.length cap2)) rfl ?_
                  exact ⟨rfl, hK⟩
                refine d_take (i := 27) (v := (.slice a3 r4_.length cap3)) (l' := #[true, true, true, true, true, true, true, true, true, true, true, true, true, true, true, true, true, true, true, true, true, true, true, true, true, true, true, true, false, false, false, false, false, false, false, false, false, false, false, false, false, false, false, false, false, false, false, false, false, false]) rfl (by kernel_rfl) (by kernel_rfl) (by kernel_rfl) rfl rfl (fun _ _ _ h => h) hS15 (fun w hJ K hK => ?_) ?_
                · refine o_on rfl rfl ?_
                  refine o_move (v := (.slice a3 r4_.length cap3)) rfl ?_
                  exact ⟨rfl, hK⟩
                refine d_take (i := 28) (v := (.int .i64 ((k_2 : Nat) : Int))) (l' := #[true, true, true, true, true, true, true, true, true, true, true, true, true, true, true, true, true, true, true, true, true, true, true, true, true, true, true, true, true, false, false, false, false, false, false, false, false, false, false, false, false, false, false, false, false, false, false, false, false, false]) rfl (by kernel_rfl) (by kernel_rfl) (by kernel_rfl) rfl rfl (fun _ _ _ h => h) hS15 (fun w hJ K hK => ?_) ?_
                · refine o_on rfl rfl ?_
                  refine o_move (v := (.int .i64 ((k_2 : Nat) : Int))) rfl ?_
                  exact ⟨rfl, hK⟩
                refine d_take (i := 29) (v := (.pointer (some (ad5.add (k_2 * 1))))) (l' := #[true, true, true, true, true, true, true, true, true, true, true, true, true, true, true, true, true, true, true, true, true, true, true, true, true, true, true, true, true, true, false, false, false, false, false, false, false, false, false, false, false, false, false, false, false, false, false, false, false, false]) rfl (by kernel_rfl) (by kernel_rfl) (by kernel_rfl) rfl rfl (fun _ _ _ h => h) hS15 (fun w hJ K hK => ?_) ?_
                · refine o_on rfl rfl ?_
                  refine o_iaddr_slice (k := k_2) (a' := (ad5.add (k_2 * 1))) (congrArg (fun z => Value.slice z _ _) ha5) rfl rfl hlt5 Try.underlying29 Try.sizeOf9 rfl ?_
                  exact ⟨rfl, hK⟩
                refine d_take (i := 30) (v := (.string x6_)) (l' := #[true, true, true, true, true, true, true, true, true, true, true, true, true, true, true, true, true, true, true, true, true, true, true, true, true, true, true, true, true, true, true, false, false, false, false, false, false, false, false, false, false, false, false, false, false, false, false, false, false, false]) rfl (by kernel_rfl) (by kernel_rfl) (by kernel_rfl) rfl rfl (fun _ _ _ h => h) hS15 (fun w hJ K hK => ?_) ?_
                · refine o_on rfl rfl ?_
                  refine o_load (v := (.string x6_)) rfl Try.isAgg9 (hr10.cell (View.of (Sub.trans (Sub.trans hsub2 hsub3) hg9.sub) hJ.view) 0 rfl rfl) ?_
                  exact ⟨rfl, hK⟩
                refine d_take (i := 32) (v := (.slice a3 r4_.length cap3)) (l' := #[true, true, true, true, true, true, true, true, true, true, true, true, true, true, true, true, true, true, true, true, true, true, true, true, true, true, true, true, true, true, true, false, true, false, false, false, false, false, false, false, false, false, false, false, false, false, false, false, false, false]) rfl (by kernel_rfl) (by kernel_rfl) (by kernel_rfl) rfl rfl (fun _ _ _ h => h) hS15 (fun w hJ K hK => ?_) ?_
                · refine o_on rfl rfl ?_
                  refine o_move (v := (.slice a3 r4_.length cap3)) rfl ?_
                  exact ⟨rfl, hK⟩
                obtain ⟨x7_, hx7, hP⟩ := hP
                obtain ⟨ad6, cs6, ha6, hl7, hr12, hR6, hlt6⟩ := RSl.at hr4 hx7
                cases hR6
                refine d_take (i := 33) (v := (.pointer (some (ad6.add (0 * 1))))) (l' := #[true, true, true, true, true, true, true, true, true, true, true, true, true, true, true, true, true, true, true, true, true, true, true, true, true, true, true, true, true, true, true, false, true, true, false, false, false, false, false, false, false, false, false, false, false, false, false, false, false, false]) rfl (by kernel_rfl) (by kernel_rfl) (by kernel_rfl) rfl rfl (fun _ _ _ h => h) hS15 (fun w hJ K hK => ?_) ?_
                · refine o_on rfl rfl ?_
                  refine o_iaddr_slice (k := 0) (a' := (ad6.add (0 * 1))) (congrArg (fun z => Value.slice z _ _) ha6) rfl rfl hlt6 Try.underlying29 Try.sizeOf9 rfl ?_
                  exact ⟨rfl, hK⟩
                refine d_take (i := 34) (v := (.string x7_)) (l' := #[true, true, true, true, true, true, true, true, true, true, true, true, true, true, true, true, true, true, true, true, true, true, true, true, true, true, true, true, true, true, true, false, true, true, true, false, false, false, false, false, false, false, false, false, false, false, false, false, false, false]) rfl (by kernel_rfl) (by kernel_rfl) (by kernel_rfl) rfl rfl (fun _ _ _ h => h) hS15 (fun w hJ K hK => ?_) ?_
                · refine o_on rfl rfl ?_
                  refine o_load (v := (.string x7_)) rfl Try.isAgg9 (hr12.cell (View.of (Sub.trans (Sub.trans hsub2 hsub3) hg9.sub) hJ.view) 0 rfl rfl) ?_
                  exact ⟨rfl, hK⟩
                refine d_one (i := 31) (by kernel_rfl) rfl (l' := #[true, true, true, true, true, true, true, true, true, true, true, true, true, true, true, true, true, true, true, true, true, true, true, true, true, true, true, true, true, true, true, true, true, true, true, false, false, false, false, false, false, false, false, false, false, false, false, false, false, false]) rfl ?_
                refine o_on rfl rfl ?_
                obtain ⟨Y14, hK12, hc11⟩ := hP
                refine o_call (args := [(.slice a2 r2_.length cap2), (.string x6_)]) rfl Try.call20 (Calls.mono (w_identity_Root r2_ x6_ (.slice a2 r2_.length cap2) hS15.view (RSl.menc (Sub.trans (Sub.trans (Sub.trans (Sub.trans hsub1 hg4.sub) hsub2) hsub3) hg9.sub) hr2) hc11) ?_)
                rintro _ w14 ⟨r11_, rfl, hg11, hY12⟩
                refine ⟨_, rfl, ?_⟩
                have hS16 := hS15.grow hg11
                replace hP := hK12 r11_ hY12
                refine wpList_nil ?_
                refine ⟨rfl, hS16, ?_⟩
                refine d_take (i := 35) (v := (.bool (!decide (r11_ = x7_)))) (l' := #[true, true, true, true, true, true, true, true, true, true, true, true, true, true, true, true, true, true, true, true, true, true, true, true, true, true, true, true, true, true, true, true, true, true, true, true, false, false, false, false, false, false, false, false, false, false, false, false, false, false]) rfl (by kernel_rfl) (by kernel_rfl) (by kernel_rfl) rfl rfl (fun _ _ _ h => h) hS16 (fun w hJ K hK => ?_) ?_
                · refine o_on rfl rfl ?_
                  refine o_neqs (r := (!decide (r11_ = x7_))) rfl rfl rfl ?_
                  exact ⟨rfl, hK⟩
                refine d_take (i := 36) (v := (.bool (!decide (r11_ = x7_)))) (l' := #[true, true, true, true, true, true, true, true, true, true, true, true, true, true, true, true, true, true, true, true, true, true, true, true, true, true, true, true, true, true, true, true, true, true, true, true, true, false, false, false, false, false, false, false, false, false, false, false, false, false]) rfl (by kernel_rfl) (by kernel_rfl) (by kernel_rfl) rfl rfl (fun _ _ _ h => h) hS16 (fun w hJ K hK => ?_) ?_
                · refine o_pick_f (v := (.bool (!decide (r11_ = x7_)))) rfl rfl ?_
                  exact ⟨rfl, hK⟩
                by_cases hb7 : r11_ = x7_
                · replace hP := hP.1 hb7
                  refine d_take (i := 37) (v := (.bool false)) (l' := #[true, true, true, true, true, true, true, true, true, true, true, true, true, true, true, true, true, true, true, true, true, true, true, true, true, true, true, true, true, true, true, true, true, true, true, true, true, true, false, false, false, false, false, false, false, false, false, false, false, false]) rfl (by kernel_rfl) (by kernel_rfl) (by kernel_rfl) rfl rfl (fun _ _ _ h => h) hS16 (fun w hJ K hK => ?_) ?_
                  · refine o_move (v := (.bool false)) (congrArg Value.bool (congrArg Bool.not (decide_eq_true hb7))) ?_
                    exact ⟨rfl, hK⟩
                  refine d_take (i := 38) (v := (.slice a2 r2_.length cap2)) (l' := #[true, true, true, true, true, true, true, true, true, true, true, true, true, true, true, true, true, true, true, true, true, true, true, true, true, true, true, true, true, true, true, true, true, true, true, true, true, true, true, false, false, false, false, false, false, false, false, false, false, false]) rfl (by kernel_rfl) (by kernel_rfl) (by kernel_rfl) rfl rfl (fun _ _ _ h => h) hS16 (fun w hJ K hK => ?_) ?_
                  · refine o_on rfl rfl ?_
                    refine o_move (v := (.slice a2 r2_.length cap2)) rfl ?_
                    exact ⟨rfl, hK⟩
                  refine d_take (i := 39) (v := (.slice a3 r4_.length cap3)) (l' := #[true, true, true, true, true, true, true, true, true, true, true, true, true, true, true, true, true, true, true, true, true, true, true, true, true, true, true, true, true, true, true, true, true, true, true, true, true, true, true, true, false, false, false, false, false, false, false, false, false, false]) rfl (by kernel_rfl) (by kernel_rfl) (by kernel_rfl) rfl rfl (fun _ _ _ h => h) hS16 (fun w hJ K hK => ?_) ?_
                  · refine o_on rfl rfl ?_
                    refine o_move (v := (.slice a3 r4_.length cap3)) rfl ?_
                    exact ⟨rfl, hK⟩
                  refine d_take (i := 40) (v := (.int .i64 ((k_2 : Nat) : Int))) (l' := #[true, true, true, true, true, true, true, true, true, true, true, true, true, true, true, true, true, true, true, true, true, true, true, true, true, true, true, true, true, true, true, true, true, true, true, true, true, true, true, true, true, false, false, false, false, false, false, false, false, false]) rfl (by kernel_rfl) (by kernel_rfl) (by kernel_rfl) rfl rfl (fun _ _ _ h => h) hS16 (fun w hJ K hK => ?_) ?_
                  · refine o_on rfl rfl ?_
                    refine o_move (v := (.int .i64 ((k_2 : Nat) : Int))) rfl ?_
                    exact ⟨rfl, hK⟩
                  refine d_take (i := 41) (v := (.pointer (some (ad5.add (k_2 * 1))))) (l' := #[true, true, true, true, true, true, true, true, true, true, true, true, true, true, true, true, true, true, true, true, true, true, true, true, true, true, true, true, true, true, true, true, true, true, true, true, true, true, true, true, true, true, false, false, false, false, false, false, false, false]) rfl (by kernel_rfl) (by kernel_rfl) (by kernel_rfl) rfl rfl (fun _ _ _ h => h) hS16 (fun w hJ K hK => ?_) ?_
                  · refine o_on rfl rfl ?_
                    refine o_iaddr_slice (k := k_2) (a' := (ad5.add (k_2 * 1))) (congrArg (fun z => Value.slice z _ _) ha5) rfl rfl hlt5 Try.underlying29 Try.sizeOf9 rfl ?_
                    exact ⟨rfl, hK⟩
                  refine d_take (i := 42) (v := (.string x6_)) (l' := #[true, true, true, true, true, true, true, true, true, true, true, true, true, true, true, true, true, true, true, true, true, true, true, true, true, true, true, true, true, true, true, true, true, true, true, true, true, true, true, true, true, true, true, false, false, false, false, false, false, false]) rfl (by kernel_rfl) (by kernel_rfl) (by kernel_rfl) rfl rfl (fun _ _ _ h => h) hS16 (fun w hJ K hK => ?_) ?_
                  · refine o_on rfl rfl ?_
                    refine o_load (v := (.string x6_)) rfl Try.isAgg9 (hr10.cell (View.of (Sub.trans (Sub.trans hsub2 hsub3) hg9.sub) hJ.view) 0 rfl rfl) ?_
                    exact ⟨rfl, hK⟩
                  refine d_take (i := 43) (v := v3) (l' := #[true, true, true, true, true, true, true, true, true, true, true, true, true, true, true, true, true, true, true, true, true, true, true, true, true, true, true, true, true, true, true, true, true, true, true, true, true, true, true, true, true, true, true, true, false, false, false, false, false, false]) rfl (by kernel_rfl) (by kernel_rfl) (by kernel_rfl) rfl rfl (fun _ _ _ h => h) hS16 (fun w hJ K hK => ?_) ?_
                  · refine o_on rfl rfl ?_
                    refine o_move (v := v3) rfl ?_
                    exact ⟨rfl, hK⟩
                  refine d_take (i := 44) (v := (.int .i64 ((i_2 : Nat) : Int))) (l' := #[true, true, true, true, true, true, true, true, true, true, true, true, true, true, true, true, true, true, true, true, true, true, true, true, true, true, true, true, true, true, true, true, true, true, true, true, true, true, true, true, true, true, true, true, true, false, false, false, false, false]) rfl (by kernel_rfl) (by kernel_rfl) (by kernel_rfl) rfl rfl (fun _ _ _ h => h) hS16 (fun w hJ K hK => ?_) ?_
                  · refine o_on rfl rfl ?_
                    refine o_move (v := (.int .i64 ((i_2 : Nat) : Int))) rfl ?_
                    exact ⟨rfl, hK⟩
                  obtain ⟨g4, cp4, hv4⟩ := vec_posv (hS16.get (i := 0) rfl) (lt_of_getq hx1)
                  refine d_take (i := 45) (v := (.pointer (some ⟨g4, i_2 * 1, none⟩))) (l' := #[true, true, true, true, true, true, true, true, true, true, true, true, true, true, true, true, true, true, true, true, true, true, true, true, true, true, true, true, true, true, true, true, true, true, true, true, true, true, true, true, true, true, true, true, true, true, false, false, false, false]) rfl (by kernel_rfl) (by kernel_rfl) (by kernel_rfl) rfl rfl (fun _ _ _ h => h) hS16 (fun w hJ K hK => ?_) ?_
                  · refine o_on rfl rfl ?_
                    refine o_iaddr_slice (k := i_2) (a' := ⟨g4, i_2 * 1, none⟩) hv4 rfl rfl (lt_of_getq hx1) Try.underlying29 Try.sizeOf9 (by simp [addr_lit]) ?_
                    exact ⟨rfl, hK⟩
                  refine d_take (i := 46) (v := (.string x1_)) (l' := #[true, true, true, true, true, true, true, true, true, true, true, true, true, true, true, true, true, true, true, true, true, true, true, true, true, true, true, true, true, true, true, true, true, true, true, true, true, true, true, true, true, true, true, true, true, true, true, false, false, false]) rfl (by kernel_rfl) (by kernel_rfl) (by kernel_rfl) rfl rfl (fun _ _ _ h => h) hS16 (fun w hJ K hK => ?_) ?_
                  · refine o_on rfl rfl ?_
                    refine o_load (v := (.string x1_)) rfl Try.isAgg9 (vec_cellv encTx_len (j := 0) hv4 (hJ.get (i := 0) rfl) hx1 rfl) ?_
                    exact ⟨rfl, hK⟩
                  refine d_one (i := 47) (by kernel_rfl) rfl (l' := #[true, true, true, true, true, true, true, true, true, true, true, true, true, true, true, true, true, true, true, true, true, true, true, true, true, true, true, true, true, true, true, true, true, true, true, true, true, true, true, true, true, true, true, true, true, true, true, true, false, false]) rfl ?_
                  refine o_on rfl rfl ?_
                  obtain ⟨Y15, hK13, hc12⟩ := hP
                  refine o_call (args := [(.slice a2 r2_.length cap2), (.string x6_), (.string x1_)]) rfl Try.call15 (Calls.mono (w_identity_Same r2_ x6_ x1_ (.slice a2 r2_.length cap2) hS16.view (RSl.menc (Sub.trans (Sub.trans (Sub.trans (Sub.trans hsub1 hg4.sub) hsub2) hsub3) hg9.sub) hr2) hc12) ?_)
                  rintro _ w15 ⟨r12_, rfl, hg12, hY13⟩
                  refine ⟨_, rfl, ?_⟩
                  have hS17 := hS16.grow hg12
                  replace hP := hK13 r12_ hY13
                  refine wpList_nil ?_
                  refine ⟨rfl, hS17, ?_⟩
                  refine d_take (i := 48) (v := (.bool (!r12_))) (l' := #[true, true, true, true, true, true, true, true, true, true, true, true, true, true, true, true, true, true, true, true, true, true, true, true, true, true, true, true, true, true, true, true, true, true, true, true, true, true, true, true, true, true, true, true, true, true, true, true, true, false]) rfl (by kernel_rfl) (by kernel_rfl) (by kernel_rfl) rfl rfl (fun _ _ _ h => h) hS17 (fun w hJ K hK => ?_) ?_
                  · refine o_on rfl rfl ?_
                    refine o_not (r := (!r12_)) rfl rfl ?_
                    exact ⟨rfl, hK⟩
                  refine d_take (i := 49) (v := (.bool (!r12_))) (l' := #[true, true, true, true, true, true, true, true, true, true, true, true, true, true, true, true, true, true, true, true, true, true, true, true, true, true, true, true, true, true, true, true, true, true, true, true, true, true, true, true, true, true, true, true, true, true, true, true, true, true]) rfl (by kernel_rfl) (by kernel_rfl) (by kernel_rfl) rfl rfl (fun _ _ _ h => h) hS17 (fun w hJ K hK => ?_) ?_
                  · refine o_pick_f (v := (.bool (!r12_))) rfl rfl ?_
                    exact ⟨rfl, hK⟩
                  refine d_done (by kernel_rfl) ?_
                  refine then_n ?_
                  refine if_nb rfl (fun ht6 => ?_) (fun ht6 => ?_)
                  · replace hP := hP.2 (by simp [ht6])
                    refine seq_reg ?_
                    refine o_assign (v := (.bool false)) rfl ?_
                    refine wpList_nil ?_
                    refine then_n ?_
                    refine wp_ret ?_
                    refine blk_r ?_
                    refine then_r ?_
                    refine then_r ?_
                    refine blk_r ?_
                    refine then_r ?_
                    refine blk_r ?_
                    refine then_r ?_
                    refine then_r ?_
                    refine blk_r ?_
                    refine then_r ?_
                    refine ret1 rfl (show ev _ _ _ = (.bool false) from rfl) ?_
                    exact ⟨false, rfl, hS17.done.forget, hP⟩
                  · replace hP := hP.1 ht6
                    refine wp_skip ?_
                    refine blk_n ?_
                    refine then_n ?_
                    refine one_reg ?_
                    refine o_move (v := (.int .i64 ((k_2 : Nat) : Int))) rfl ?_
                    refine o_add (r := ((k_2 + 1 : Nat) : Int)) rfl rfl (nw (by omega) (by omega) (by have := hlen3; omega)) ?_
                    refine o_assign (v := (.int .i64 ((k_2 + 1 : Nat) : Int))) rfl ?_
                    refine wpList_nil ?_
                    refine then_n ?_
                    exact ⟨(found_3), k_2 + 1, _, rfl, hP, σ7, _, (upd_in rfl (upd_in rfl (upd_in rfl (upd_in rfl (upd_in rfl (upd_in rfl rfl)))))), hS17, (Sub.trans (Sub.trans hsub2 hsub3) hg9.sub)⟩
                · replace hP := hP.2 hb7
                  refine d_take (i := 37) (v := (.bool true)) (l' := #[true, true, true, true, true, true, true, true, true, true, true, true, true, true, true, true, true, true, true, true, true, true, true, true, true, true, true, true, true, true, true, true, true, true, true, true, true, true, false, false, false, false, false, false, false, false, false, false, false, false]) rfl (by kernel_rfl) (by kernel_rfl) (by kernel_rfl) rfl rfl (fun _ _ _ h => h) hS16 (fun w hJ K hK => ?_) ?_
                  · refine o_move (v := (.bool true)) (congrArg Value.bool (congrArg Bool.not (decide_eq_false hb7))) ?_
                    exact ⟨rfl, hK⟩
                  refine d_take (i := 38) (v := undef) (l' := #[true, true, true, true, true, true, true, true, true, true, true, true, true, true, true, true, true, true, true, true, true, true, true, true, true, true, true, true, true, true, true, true, true, true, true, true, true, true, true, false, false, false, false, false, false, false, false, false, false, false]) rfl (by kernel_rfl) (by kernel_rfl) (by kernel_rfl) rfl rfl (fun _ _ _ h => h) hS16 (fun w hJ K hK => ?_) ?_
                  · refine o_off rfl rfl ?_
                    exact ⟨rfl, hK⟩
                  refine d_take (i := 39) (v := undef) (l' := #[true, true, true, true, true, true, true, true, true, true, true, true, true, true, true, true, true, true, true, true, true, true, true, true, true, true, true, true, true, true, true, true, true, true, true, true, true, true, true, true, false, false, false, false, false, false, false, false, false, false]) rfl (by kernel_rfl) (by kernel_rfl) (by kernel_rfl) rfl rfl (fun _ _ _ h => h) hS16 (fun w hJ K hK => ?_) ?_
                  · refine o_off rfl rfl ?_
                    exact ⟨rfl, hK⟩
                  refine d_take (i := 40) (v := undef) (l' := #[true, true, true, true, true, true, true, true, true, true, true, true, true, true, true, true, true, true, true, true, true, true, true, true, true, true, true, true, true, true, true, true, true, true, true, true, true, true, true, true, true, false, false, false, false, false, false, false, false, false]) rfl (by kernel_rfl) (by kernel_rfl) (by kernel_rfl) rfl rfl (fun _ _ _ h => h) hS16 (fun w hJ K hK => ?_) ?_
                  · refine o_off rfl rfl ?_
                    exact ⟨rfl, hK⟩
                  refine d_take (i := 41) (v := undef) (l' := #[true, true, true, true, true, true, true, true, true, true, true, true, true, true, true, true, true, true, true, true, true, true, true, true, true, true, true, true, true, true, true, true, true, true, true, true, true, true, true, true, true, true, false, false, false, false, false, false, false, false]) rfl (by kernel_rfl) (by kernel_rfl) (by kernel_rfl) rfl rfl (fun _ _ _ h => h) hS16 (fun w hJ K hK => ?_) ?_
                  · refine o_off rfl rfl ?_
                    exact ⟨rfl, hK⟩
                  refine d_take (i := 42) (v := undef) (l' := #[true, true, true, true, true, true, true, true, true, true, true, true, true, true, true, true, true, true, true, true, true, true, true, true, true, true, true, true, true, true, true, true, true, true, true, true, true, true, true, true, true, true, true, false, false, false, false, false, false, false]) rfl (by kernel_rfl) (by kernel_rfl) (by kernel_rfl) rfl rfl (fun _ _ _ h => h) hS16 (fun w hJ K hK => ?_) ?_
                  · refine o_off rfl rfl ?_
                    exact ⟨rfl, hK⟩
                  refine d_take (i := 43) (v := undef) (l' := #[true, true, true, true, true, true, true, true, true, true, true, true, true, true, true, true, true, true, true, true, true, true, true, true, true, true, true, true, true, true, true, true, true, true, true, true, true, true, true, true, true, true, true, true, false, false, false, false, false, false]) rfl (by kernel_rfl) (by kernel_rfl) (by kernel_rfl) rfl rfl (fun _ _ _ h => h) hS16 (fun w hJ K hK => ?_) ?_
                  · refine o_off rfl rfl ?_
                    exact ⟨rfl, hK⟩
                  refine d_take (i := 44) (v := undef) (l' := #[true, true, true, true, true, true, true, true, true, true, true, true, true, true, true, true, true, true, true, true, true, true, true, true, true, true, true, true, true, true, true, true, true, true, true, true, true, true, true, true, true, true, true, true, true, false, false, false, false, false]) rfl (by kernel_rfl) (by kernel_rfl) (by kernel_rfl) rfl rfl (fun _ _ _ h => h) hS16 (fun w hJ K hK => ?_) ?_
                  · refine o_off rfl rfl ?_
                    exact ⟨rfl, hK⟩
                  refine d_take (i := 45) (v := undef) (l' := #[true, true, true, true, true, true, true, true, true, true, true, true, true, true, true, true, true, true, true, true, true, true, true, true, true, true, true, true, true, true, true, true, true, true, true, true, true, true, true, true, true, true, true, true, true, true, false, false, false, false]) rfl (by kernel_rfl) (by kernel_rfl) (by kernel_rfl) rfl rfl (fun _ _ _ h => h) hS16 (fun w hJ K hK => ?_) ?_
                  · refine o_off rfl rfl ?_
                    exact ⟨rfl, hK⟩
                  refine d_take (i := 46) (v := undef) (l' := #[true, true, true, true, true, true, true, true, true, true, true, true, true, true, true, true, true, true, true, true, true, true, true, true, true, true, true, true, true, true, true, true, true, true, true, true, true, true, true, true, true, true, true, true, true, true, true, false, false, false]) rfl (by kernel_rfl) (by kernel_rfl) (by kernel_rfl) rfl rfl (fun _ _ _ h => h) hS16 (fun w hJ K hK => ?_) ?_
                  · refine o_off rfl rfl ?_
                    exact ⟨rfl, hK⟩
                  refine d_take (i := 47) (v := undef) (l' := #[true, true, true, true, true, true, true, true, true, true, true, true, true, true, true, true, true, true, true, true, true, true, true, true, true, true, true, true, true, true, true, true, true, true, true, true, true, true, true, true, true, true, true, true, true, true, true, true, false, false]) rfl (by kernel_rfl) (by kernel_rfl) (by kernel_rfl) rfl rfl (fun _ _ _ h => h) hS16 (fun w hJ K hK => ?_) ?_
                  · refine o_off rfl rfl ?_
                    exact ⟨rfl, hK⟩
                  refine d_take (i := 48) (v := undef) (l' := #[true, true, true, true, true, true, true, true, true, true, true, true, true, true, true, true, true, true, true, true, true, true, true, true, true, true, true, true, true, true, true, true, true, true, true, true, true, true, true, true, true, true, true, true, true, true, true, true, true, false]) rfl (by kernel_rfl) (by kernel_rfl) (by kernel_rfl) rfl rfl (fun _ _ _ h => h) hS16 (fun w hJ K hK => ?_) ?_
                  · refine o_off rfl rfl ?_
                    exact ⟨rfl, hK⟩
                  refine d_take (i := 49) (v := (.bool true)) (l' := #[true, true, true, true, true, true, true, true, true, true, true, true, true, true, true, true, true, true, true, true, true, true, true, true, true, true, true, true, true, true, true, true, true, true, true, true, true, true, true, true, true, true, true, true, true, true, true, true, true, true]) rfl (by kernel_rfl) (by kernel_rfl) (by kernel_rfl) rfl rfl (fun _ _ _ h => h) hS16 (fun w hJ K hK => ?_) ?_
                  · refine o_pick_t (v := (.bool true)) rfl rfl ?_
                    exact ⟨rfl, hK⟩
                  refine d_done (by kernel_rfl) ?_
                  refine then_n ?_
                  refine if_t rfl ?_
                  refine seq_reg ?_
                  refine o_assign (v := (.bool false)) rfl ?_
                  refine wpList_nil ?_
                  refine then_n ?_
                  refine wp_ret ?_
                  refine blk_r ?_
                  refine then_r ?_
                  refine then_r ?_
                  refine blk_r ?_
                  refine then_r ?_
                  refine blk_r ?_
                  refine then_r ?_
                  refine then_r ?_
                  refine blk_r ?_
                  refine then_r ?_
                  refine ret1 rfl (show ev _ _ _ = (.bool false) from rfl) ?_
                  exact ⟨false, rfl, hS16.done.forget, hP⟩
              · replace hP := hP.2 (by simp [hb6])
                refine d_take (i := 25) (v := (.bool true)) (l' := #[true, true, true, true, true, true, true, true, true, true, true, true, true, true, true, true, true, true, true, true, true, true, true, true, true, true, false, false, false, false, false, false, false, false, false, false, false, false, false, false, false, false, false, false, false, false, false, false, false, false]) rfl (by kernel_rfl) (by kernel_rfl) (by kernel_rfl) rfl rfl (fun _ _ _ h => h) hS15 (fun w hJ K hK => ?_) ?_
                · refine o_move (v := (.bool true)) (congrArg Value.bool (congrArg Bool.not hb6)) ?_
                  exact ⟨rfl, hK⟩
                refine d_take (i := 26) (v := undef) (l' := #[true, true, true, true, true, true, true, true, true, true, true, true, true, true, true, true, true, true, true, true, true, true, true, true, true, true, true, false, false, false, false, false, false, false, false, false, false, false, false, false, false, false, false, false, false, false, false, false, false, false]) rfl (by kernel_rfl) (by kernel_rfl) (by kernel_rfl) rfl rfl (fun _ _ _ h => h) hS15 (fun w hJ K hK => ?_) ?_
                · refine o_off rfl rfl ?_
                  exact ⟨rfl, hK⟩
                refine d_take (i := 27) (v := undef) (l' := #[true, true, true, true, true, true, true, true, true, true, true, true, true, true, true, true, true, true, true, true, true, true, true, true, true, true, true, true, false, false, false, false, false, false, false, false, false, false, false, false, false, false, false, false, false, false, false, false, false, false]) rfl (by kernel_rfl) (by kernel_rfl) (by kernel_rfl) rfl rfl (fun _ _ _ h => h) hS15 (fun w hJ K hK => ?_) ?_
                · refine o_off rfl rfl ?_
                  exact ⟨rfl, hK⟩
                refine d_take (i := 28) (v := undef) (l' := #[true, true, true, true, true, true, true, true, true, true, true, true, true, true, true, true, true, true, true, true, true, true, true, true, true, true, true, true, true, false, false, false, false, false, false, false, false, false, false, false, false, false, false, false, false, false, false, false, false, false]) rfl (by kernel_rfl) (by kernel_rfl) (by kernel_rfl) rfl rfl (fun _ _ _ h => h) hS15 (fun w hJ K hK => ?_) ?_
                · refine o_off rfl rfl ?_
                  exact ⟨rfl, hK⟩
                refine d_take (i := 29) (v := undef) (l' := #[true, true, true, true, true, true, true, true, true, true, true, true, true, true, true, true, true, true, true, true, true, true, true, true, true, true, true, true, true, true, false, false, false, false, false, false, false, false, false, false, false, false, false, false, false, false, false, false, false, false]) rfl (by kernel_rfl) (by kernel_rfl) (by kernel_rfl) rfl rfl (fun _ _ _ h => h) hS15 (fun w hJ K hK => ?_) ?_
                · refine o_off rfl rfl ?_
                  exact ⟨rfl, hK⟩
                refine d_take (i := 30) (v := undef) (l' := #[true, true, true, true, true, true, true, true, true, true, true, true, true, true, true, true, true, true, true, true, true, true, true, true, true, true, true, true, true, true, true, false, false, false, false, false, false, false, false, false, false, false, false, false, false, false, false, false, false, false]) rfl (by kernel_rfl) (by kernel_rfl) (by kernel_rfl) rfl rfl (fun _ _ _ h => h) hS15 (fun w hJ K hK => ?_) ?_
                · refine o_off rfl rfl ?_
                  exact ⟨rfl, hK⟩
                refine d_take (i := 31) (v := undef) (l' := #[true, true, true, true, true, true, true, true, true, true, true, true, true, true, true, true, true, true, true, true, true, true, true, true, true, true, true, true, true, true, true, true, false, false, false, false, false, false, false, false, false, false, false, false, false, false, false, false, false, false]) rfl (by kernel_rfl) (by kernel_rfl) (by kernel_rfl) rfl rfl (fun _ _ _ h => h) hS15 (fun w hJ K hK => ?_) ?_
                · refine o_off rfl rfl ?_
                  exact ⟨rfl, hK⟩
                refine d_take (i := 32) (v := undef) (l' := #[true, true, true, true, true, true, true, true, true, true, true, true, true, true, true, true, true, true, true, true, true, true, true, true, true, true, true, true, true, true, true, true, true, false, false, false, false, false, false, false, false, false, false, false, false, false, false, false, false, false]) rfl (by kernel_rfl) (by kernel_rfl) (by kernel_rfl) rfl rfl (fun _ _ _ h => h) hS15 (fun w hJ K hK => ?_) ?_
                · refine o_off rfl rfl ?_
                  exact ⟨rfl, hK⟩
                refine d_take (i := 33) (v := undef) (l' := #[true, true, true, true, true, true, true, true, true, true, true, true, true, true, true, true, true, true, true, true, true, true, true, true, true, true, true, true, true, true, true, true, true, true, false, false, false, false, false, false, false, false, false, false, false, false, false, false, false, false]) rfl (by kernel_rfl) (by kernel_rfl) (by kernel_rfl) rfl rfl (fun _ _ _ h => h) hS15 (fun w hJ K hK => ?_) ?_
                · refine o_off rfl rfl ?_
                  exact ⟨rfl, hK⟩
                refine d_take (i := 34) (v := undef) (l' := #[true, true, true, true, true, true, true, true, true, true, true, true, true, true, true, true, true, true, true, true, true, true, true, true, true, true, true, true, true, true, true, true, true, true, true, false, false, false, false, false, false, false, false, false, false, false, false, false, false, false]) rfl (by kernel_rfl) (by kernel_rfl) (by kernel_rfl) rfl rfl (fun _ _ _ h => h) hS15 (fun w hJ K hK => ?_) ?_
                · refine o_off rfl rfl ?_
                  exact ⟨rfl, hK⟩
                refine d_take (i := 35) (v := undef) (l' := #[true, true, true, true, true, true, true, true, true, true, true, true, true, true, true, true, true, true, true, true, true, true, true, true, true, true, true, true, true, true, true, true, true, true, true, true, false, false, false, false, false, false, false, false, false, false, false, false, false, false]) rfl (by kernel_rfl) (by kernel_rfl) (by kernel_rfl) rfl rfl (fun _ _ _ h => h) hS15 (fun w hJ K hK => ?_) ?_
                · refine o_off rfl rfl ?_
                  exact ⟨rfl, hK⟩
                refine d_take (i := 36) (v := (.bool true)) (l' := #[true, true, true, true, true, true, true, true, true, true, true, true, true, true, true, true, true, true, true, true, true, true, true, true, true, true, true, true, true, true, true, true, true, true, true, true, true, false, false, false, false, false, false, false, false, false, false, false, false, false]) rfl (by kernel_rfl) (by kernel_rfl) (by kernel_rfl) rfl rfl (fun _ _ _ h => h) hS15 (fun w hJ K hK => ?_) ?_
                · refine o_pick_t (v := (.bool true)) rfl rfl ?_
                  exact ⟨rfl, hK⟩
                refine d_take (i := 37) (v := (.bool true)) (l' := #[true, true, true, true, true, true, true, true, true, true, true, true, true, true, true, true, true, true, true, true, true, true, true, true, true, true, true, true, true, true, true, true, true, true, true, true, true, true, false, false, false, false, false, false, false, false, false, false, false, false]) rfl (by kernel_rfl) (by kernel_rfl) (by kernel_rfl) rfl rfl (fun _ _ _ h => h) hS15 (fun w hJ K hK => ?_) ?_
                · refine o_move (v := (.bool true)) rfl ?_
                  exact ⟨rfl, hK⟩
                refine d_take (i := 38) (v := undef) (l' := #[true, true, true, true, true, true, true, true, true, true, true, true, true, true, true, true, true, true, true, true, true, true, true, true, true, true, true, true, true, true, true, true, true, true, true, true, true, true, true, false, false, false, false, false, false, false, false, false, false, false]) rfl (by kernel_rfl) (by kernel_rfl) (by kernel_rfl) rfl rfl (fun _ _ _ h => h) hS15 (fun w hJ K hK => ?_) ?_
                · refine o_off rfl rfl ?_
                  exact ⟨rfl, hK⟩
                refine d_take (i := 39) (v := undef) (l' := #[true, true, true, true, true, true, true, true, true, true, true, true, true, true, true, true, true, true, true, true, true, true, true, true, true, true, true, true, true, true, true, true, true, true, true, true, true, true, true, true, false, false, false, false, false, false, false, false, false, false]) rfl (by kernel_rfl) (by kernel_rfl) (by kernel_rfl) rfl rfl (fun _ _ _ h => h) hS15 (fun w hJ K hK => ?_) ?_
                · refine o_off rfl rfl ?_
                  exact ⟨rfl, hK⟩
                refine d_take (i := 40) (v := undef) (l' := #[true, true, true, true, true, true, true, true, true, true, true, true, true, true, true, true, true, true, true, true, true, true, true, true, true, true, true, true, true, true, true, true, true, true, true, true, true, true, true, true, true, false, false, false, false, false, false, false, false, false]) rfl (by kernel_rfl) (by kernel_rfl) (by kernel_rfl) rfl rfl (fun _ _ _ h => h) hS15 (fun w hJ K hK => ?_) ?_
                · refine o_off rfl rfl ?_
                  exact ⟨rfl, hK⟩
                refine d_take (i := 41) (v := undef) (l' := #[true, true, true, true, true, true, true, true, true, true, true, true, true, true, true, true, true, true, true, true, true, true, true, true, true, true, true, true, true, true, true, true, true, true, true, true, true, true, true, true, true, true, false, false, false, false, false, false, false, false]) rfl (by kernel_rfl) (by kernel_rfl) (by kernel_rfl) rfl rfl (fun _ _ _ h => h) hS15 (fun w hJ K hK => ?_) ?_
                · refine o_off rfl rfl ?_
                  exact ⟨rfl, hK⟩
                refine d_take (i := 42) (v := undef) (l' := #[true, true, true, true, true, true, true, true, true, true, true, true, true, true, true, true, true, true, true, true, true, true, true, true, true, true, true, true, true, true, true, true, true, true, true, true, true, true, true, true, true, true, true, false, false, false, false, false, false, false]) rfl (by kernel_rfl) (by kernel_rfl) (by kernel_rfl) rfl rfl (fun _ _ _ h => h) hS15 (fun w hJ K hK => ?_) ?_
                · refine o_off rfl rfl ?_
                  exact ⟨rfl, hK⟩
                refine d_take (i := 43) (v := undef) (l' := #[true, true, true, true, true, true, true, true, true, true, true, true, true, true, true, true, true, true, true, true, true, true, true, true, true, true, true, true, true, true, true, true, true, true, true, true, true, true, true, true, true, true, true, true, false, false, false, false, false, false]) rfl (by kernel_rfl) (by kernel_rfl) (by kernel_rfl) rfl rfl (fun _ _ _ h => h) hS15 (fun w hJ K hK => ?_) ?_
                · refine o_off rfl rfl ?_
                  exact ⟨rfl, hK⟩
                refine d_take (i := 44) (v := undef) (l' := #[true, true, true, true, true, true, true, true, true, true, true, true, true, true, true, true, true, true, true, true, true, true, true, true, true, true, true, true, true, true, true, true, true, true, true, true, true, true, true, true, true, true, true, true, true, false, false, false, false, false]) rfl (by kernel_rfl) (by kernel_rfl) (by kernel_rfl) rfl rfl (fun _ _ _ h => h) hS15 (fun w hJ K hK => ?_) ?_
                · refine o_off rfl rfl ?_
                  exact ⟨rfl, hK⟩
                refine d_take (i := 45) (v := undef) (l' := #[true, true, true, true, true, true, true, true, true, true, true, true, true, true, true, true, true, true, true, true, true, true, true, true, true, true, true, true, true, true, true, true, true, true, true, true, true, true, true, true, true, true, true, true, true, true, false, false, false, false]) rfl (by kernel_rfl) (by kernel_rfl) (by kernel_rfl) rfl rfl (fun _ _ _ h => h) hS15 (fun w hJ K hK => ?_) ?_
                · refine o_off rfl rfl ?_
                  exact ⟨rfl, hK⟩
                refine d_take (i := 46) (v := undef) (l' := #[true, true, true, true, true, true, true, true, true, true, true, true, true, true, true, true, true, true, true, true, true, true, true, true, true, true, true, true, true, true, true, true, true, true, true, true, true, true, true, true, true, true, true, true, true, true, true, false, false, false]) rfl (by kernel_rfl) (by kernel_rfl) (by kernel_rfl) rfl rfl (fun _ _ _ h => h) hS15 (fun w hJ K hK => ?_) ?_
                · refine o_off rfl rfl ?_
                  exact ⟨rfl, hK⟩
                refine d_take (i := 47) (v := undef) (l' := #[true, true, true, true, true, true, true, true, true, true, true, true, true, true, true, true, true, true, true, true, true, true, true, true, true, true, true, true, true, true, true, true, true, true, true, true, true, true, true, true, true, true, true, true, true, true, true, true, false, false]) rfl (by kernel_rfl) (by kernel_rfl) (by kernel_rfl) rfl rfl (fun _ _ _ h => h) hS15 (fun w hJ K hK => ?_) ?_
                · refine o_off rfl rfl ?_
                  exact ⟨rfl, hK⟩
                refine d_take (i := 48) (v := undef) (l' := #[true, true, true, true, true, true, true, true, true, true, true, true, true, true, true, true, true, true, true, true, true, true, true, true, true, true, true, true, true, true, true, true, true, true, true, true, true, true, true, true, true, true, true, true, true, true, true, true, true, false]) rfl (by kernel_rfl) (by kernel_rfl) (by kernel_rfl) rfl rfl (fun _ _ _ h => h) hS15 (fun w hJ K hK => ?_) ?_
                · refine o_off rfl rfl ?_
                  exact ⟨rfl, hK⟩
                refine d_take (i := 49) (v := (.bool true)) (l' := #[true, true, true, true, true, true, true, true, true, true, true, true, true, true, true, true, true, true, true, true, true, true, true, true, true, true, true, true, true, true, true, true, true, true, true, true, true, true, true, true, true, true, true, true, true, true, true, true, true, true]) rfl (by kernel_rfl) (by kernel_rfl) (by kernel_rfl) rfl rfl (fun _ _ _ h => h) hS15 (fun w hJ K hK => ?_) ?_
                · refine o_pick_t (v := (.bool true)) rfl rfl ?_
                  exact ⟨rfl, hK⟩
                refine d_done (by kernel_rfl) ?_
                refine then_n ?_
                refine if_t rfl ?_
                refine seq_reg ?_
                refine o_assign (v := (.bool false)) rfl ?_
                refine wpList_nil ?_
                refine then_n ?_
                refine wp_ret ?_
                refine blk_r ?_
                refine then_r ?_
                refine then_r ?_
                refine blk_r ?_
                refine then_r ?_
                refine blk_r ?_
                refine then_r ?_
                refine then_r ?_
                refine blk_r ?_
                refine then_r ?_
                refine ret1 rfl (show ev _ _ _ = (.bool false) from rfl) ?_
                exact ⟨false, rfl, hS15.done.forget, hP⟩
        · replace hP := hP.2 ht4
          refine wp_exit ?_
          refine then_e ?_
          refine then_e ?_
          refine blk_hit ?_
          refine then_n ?_
          refine seq_reg ?_
          refine o_move (v := (.bool (found_2))) rfl ?_
          refine o_not (r := (!found_2)) rfl rfl ?_
          refine wpList_nil ?_
          refine then_n ?_
          refine if_nb rfl (fun ht7 => ?_) (fun ht7 => ?_)
          · replace hP := hP.2 (by simp [ht7])
            refine seq_reg ?_
            refine o_assign (v := (.bool false)) rfl ?_
            refine wpList_nil ?_
            refine then_n ?_
            refine wp_ret ?_
            refine blk_r ?_
            refine then_r ?_
            refine then_r ?_
            refine blk_r ?_
            refine then_r ?_
            refine ret1 rfl (show ev _ _ _ = (.bool false) from rfl) ?_
            exact ⟨false, rfl, hS6.done.forget, hP⟩
          · replace hP := hP.1 ht7
            refine wp_skip ?_
            refine blk_n ?_
            refine then_n ?_
            refine one_reg ?_
            refine o_move (v := (.int .i64 ((i_2 : Nat) : Int))) rfl ?_
            refine o_add (r := ((i_2 + 1 : Nat) : Int)) rfl rfl (nw (by omega) (by omega) (by have := hlen2; omega)) ?_
            refine o_assign (v := (.int .i64 ((i_2 + 1 : Nat) : Int))) rfl ?_
            refine wpList_nil ?_
            refine then_n ?_
            exact ⟨i_2 + 1, _, rfl, hP, σ4, _, (upd_in rfl (upd_in rfl (upd_in rfl rfl))), hS6, (Sub.trans (Sub.trans hsub1 hg4.sub) hsub2)⟩
      · replace hP := hP.2 ht3
        refine wp_exit ?_
        refine then_e ?_
        refine then_e ?_
        refine blk_hit ?_
        refine then_n ?_
        refine wp_seq ?_
        refine seq_reg ?_
        refine o_assign (v := (.int .i64 (0 : Int))) rfl ?_
        refine wpList_nil ?_
        refine then_n ?_
        refine wp_block ?_
        refine lp_loop1 (fun i_4 f z => ∃ (σ8 : Hv) (g : Fr), f = (upd (upd g 3 (.slice a2 r2_.length cap2)) 9 (.int .i64 ((i_4 : Nat) : Int))) ∧ St ⟨w, σ, []⟩ z σ8 [vec v3 9 1 r3_.length ((r3_).flatMap encTx)] ∧ Sub σ2 σ8) hP ⟨σ2, _, (upd_in rfl (upd_in rfl rfl)), hS4, (Sub.refl _)⟩ ?_
        clear hP
        rintro i_4 Y16 hP f w16 ⟨σ8, g, rfl, hS18, hsub4⟩
        refine wp_seq ?_
        refine seq_reg ?_
        refine o_move (v := (.int .i64 ((i_4 : Nat) : Int))) rfl ?_
        refine o_move (v := (.slice a2 r2_.length cap2)) rfl ?_
        refine o_len_slice rfl Try.underlying24 ?_
        have hlen4 := RSl.len63 hr2
        replace hP := hP hlen4
        refine o_lss (r := (decide (((i_4 : Nat) : Int) < ((r2_.length : Nat) : Int)))) rfl rfl rfl ?_
        refine wpList_nil ?_
        refine then_n ?_
        refine if_d (((i_4 : Nat) : Int) < ((r2_.length : Nat) : Int)) rfl (fun ht8 => ?_) (fun ht8 => ?_)
        · replace hP := hP.1 ht8
          refine wp_skip ?_
          refine then_n ?_
          refine wp_seq ?_
          refine wp_block ?_
          refine wp_seq ?_
          refine d_reg (fun z => St ⟨w, σ, []⟩ z σ8 [vec v3 9 1 r3_.length ((r3_).flatMap encTx)]) (by kernel_rfl) rfl rfl ?_
          have hS19 := hS18.drew
          refine d_take (i := 0) (v := (.slice a2 r2_.length cap2)) (l' := #[true, false, false, false, false, false, false, false, false, false, false, false, false]) rfl (by kernel_rfl) (by kernel_rfl) (by kernel_rfl) rfl rfl (fun _ _ _ h => h) hS19 (fun w hJ K hK => ?_) ?_
          · refine o_move (v := (.slice a2 r2_.length cap2)) rfl ?_
            exact ⟨rfl, hK⟩
          refine d_take (i := 1) (v := (.slice a2 r2_.length cap2)) (l' := #[true, true, false, false, false, false, false, false, false, false, false, false, false]) rfl (by kernel_rfl) (by kernel_rfl) (by kernel_rfl) rfl rfl (fun _ _ _ h => h) hS19 (fun w hJ K hK => ?_) ?_
          · refine o_move (v := (.slice a2 r2_.length cap2)) rfl ?_
            exact ⟨rfl, hK⟩
          refine d_take (i := 2) (v := (.int .i64 ((i_4 : Nat) : Int))) (l' := #[true, true, true, false, false, false, false, false, false, false, false, false, false]) rfl (by kernel_rfl) (by kernel_rfl) (by kernel_rfl) rfl rfl (fun _ _ _ h => h) hS19 (fun w hJ K hK => ?_) ?_
          · refine o_move (v := (.int .i64 ((i_4 : Nat) : Int))) rfl ?_
            exact ⟨rfl, hK⟩
          obtain ⟨x8_, hx8⟩ := getq (l := r2_) (k := i_4) (by have := ht8; omega)
          replace hP := hP x8_ hx8
          obtain ⟨ad7, cs7, ha7, hl8, hr13, hR7, hlt7⟩ := RSl.at hr2 hx8
          cases hR7
          refine d_take (i := 3) (v := (.pointer (some (ad7.add (i_4 * 3))))) (l' := #[true, true, true, true, false, false, false, false, false, false, false, false, false]) rfl (by kernel_rfl) (by kernel_rfl) (by kernel_rfl) rfl rfl (fun _ _ _ h => h) hS19 (fun w hJ K hK => ?_) ?_
          · refine o_iaddr_slice (k := i_4) (a' := (ad7.add (i_4 * 3))) (congrArg (fun z => Value.slice z _ _) ha7) rfl rfl hlt7 Try.underlying24 Try.sizeOf28 rfl ?_
            exact ⟨rfl, hK⟩
          refine d_take (i := 4) (v := (.pointer (some (((ad7.add (i_4 * 3))).add 0)))) (l' := #[true, true, true, true, true, false, false, false, false, false, false, false, false]) rfl (by kernel_rfl) (by kernel_rfl) (by kernel_rfl) rfl rfl (fun _ _ _ h => h) hS19 (fun w hJ K hK => ?_) ?_
          · refine o_faddr (a' := (((ad7.add (i_4 * 3))).add 0)) rfl Try.underlying28 rfl Try.sizeOf9 rfl ?_
            exact ⟨rfl, hK⟩
          refine d_take (i := 5) (v := (.string x8_.1)) (l' := #[true, true, true, true, true, true, false, false, false, false, false, false, false]) rfl (by kernel_rfl) (by kernel_rfl) (by kernel_rfl) rfl rfl (fun _ _ _ h => h) hS19 (fun w hJ K hK => ?_) ?_
          · refine o_load (v := (.string x8_.1)) rfl Try.isAgg9 (hr13.cell (View.of (Sub.trans hsub1 hsub4) hJ.view) 0 rfl rfl) ?_
            exact ⟨rfl, hK⟩
          refine d_take (i := 6) (v := (.slice a2 r2_.length cap2)) (l' := #[true, true, true, true, true, true, true, false, false, false, false, false, false]) rfl (by kernel_rfl) (by kernel_rfl) (by kernel_rfl) rfl rfl (fun _ _ _ h => h) hS19 (fun w hJ K hK => ?_) ?_
          · refine o_move (v := (.slice a2 r2_.length cap2)) rfl ?_
            exact ⟨rfl, hK⟩
          refine d_take (i := 7) (v := (.int .i64 ((i_4 : Nat) : Int))) (l' := #[true, true, true, true, true, true, true, true, false, false, false, false, false]) rfl (by kernel_rfl) (by kernel_rfl) (by kernel_rfl) rfl rfl (fun _ _ _ h => h) hS19 (fun w hJ K hK => ?_) ?_
          · refine o_move (v := (.int .i64 ((i_4 : Nat) : Int))) rfl ?_
            exact ⟨rfl, hK⟩
          refine d_take (i := 8) (v := (.pointer (some (ad7.add (i_4 * 3))))) (l' := #[true, true, true, true, true, true, true, true, true, false, false, false, false]) rfl (by kernel_rfl) (by kernel_rfl) (by kernel_rfl) rfl rfl (fun _ _ _ h => h) hS19 (fun w hJ K hK => ?_) ?_
          · refine o_iaddr_slice (k := i_4) (a' := (ad7.add (i_4 * 3))) (congrArg (fun z => Value.slice z _ _) ha7) rfl rfl hlt7 Try.underlying24 Try.sizeOf28 rfl ?_
            exact ⟨rfl, hK⟩
          refine d_take (i := 9) (v := (.pointer (some (((ad7.add (i_4 * 3))).add 1)))) (l' := #[true, true, true, true, true, true, true, true, true, true, false, false, false]) rfl (by kernel_rfl) (by kernel_rfl) (by kernel_rfl) rfl rfl (fun _ _ _ h => h) hS19 (fun w hJ K hK => ?_) ?_
          · refine o_faddr (a' := (((ad7.add (i_4 * 3))).add 1)) rfl Try.underlying28 rfl Try.sizeOf9 rfl ?_
            exact ⟨rfl, hK⟩
          refine d_take (i := 10) (v := (.string x8_.2.1)) (l' := #[true, true, true, true, true, true, true, true, true, true, true, false, false]) rfl (by kernel_rfl) (by kernel_rfl) (by kernel_rfl) rfl rfl (fun _ _ _ h => h) hS19 (fun w hJ K hK => ?_) ?_
          · refine o_load (v := (.string x8_.2.1)) rfl Try.isAgg9 (hr13.cell (View.of (Sub.trans hsub1 hsub4) hJ.view) 1 rfl rfl) ?_
            exact ⟨rfl, hK⟩
          refine d_one (i := 11) (by kernel_rfl) rfl (l' := #[true, true, true, true, true, true, true, true, true, true, true, true, false]) rfl ?_
          obtain ⟨Y17, hK14, hc13⟩ := hP
          refine o_call (args := [(.slice a2 r2_.length cap2), (.string x8_.1), (.string x8_.2.1)]) rfl Try.call15 (Calls.mono (w_identity_Same r2_ x8_.1 x8_.2.1 (.slice a2 r2_.length cap2) hS19.view (RSl.menc (Sub.trans hsub1 hsub4) hr2) hc13) ?_)
          rintro _ w17 ⟨r13_, rfl, hg13, hY14⟩
          refine ⟨_, rfl, ?_⟩
          have hS20 := hS19.grow hg13
          replace hP := hK14 r13_ hY14
          refine wpList_nil ?_
          refine ⟨rfl, hS20, ?_⟩
          refine d_take (i := 12) (v := (.bool (!r13_))) (l' := #[true, true, true, true, true, true, true, true, true, true, true, true, true]) rfl (by kernel_rfl) (by kernel_rfl) (by kernel_rfl) rfl rfl (fun _ _ _ h => h) hS20 (fun w hJ K hK => ?_) ?_
          · refine o_not (r := (!r13_)) rfl rfl ?_
            exact ⟨rfl, hK⟩
          refine d_done (by kernel_rfl) ?_
          refine then_n ?_
          refine if_nb rfl (fun ht9 => ?_) (fun ht9 => ?_)
          · replace hP := hP.2 (by simp [ht9])
            refine seq_reg ?_
            refine o_assign (v := (.bool false)) rfl ?_
            refine wpList_nil ?_
            refine then_n ?_
            refine wp_ret ?_
            refine blk_r ?_
            refine then_r ?_
            refine then_r ?_
            refine blk_r ?_
            refine then_r ?_
            refine ret1 rfl (show ev _ _ _ = (.bool false) from rfl) ?_
            exact ⟨false, rfl, hS20.done.forget, hP⟩
          · replace hP := hP.1 ht9
            refine wp_skip ?_
            refine blk_n ?_
            refine then_n ?_
            refine one_reg ?_
            refine o_move (v := (.int .i64 ((i_4 : Nat) : Int))) rfl ?_
            refine o_add (r := ((i_4 + 1 : Nat) : Int)) rfl rfl (nw (by omega) (by omega) (by have := hlen4; omega)) ?_
            refine o_assign (v := (.int .i64 ((i_4 + 1 : Nat) : Int))) rfl ?_
            refine wpList_nil ?_
            refine then_n ?_
            exact ⟨i_4 + 1, _, rfl, hP, σ8, _, (upd_in rfl (upd_in rfl rfl)), hS20, hsub4⟩
        · replace hP := hP.2 ht8
          refine wp_exit ?_
          refine then_e ?_
          refine then_e ?_
          refine blk_hit ?_
          refine then_n ?_
          refine seq_reg ?_
          refine o_assign (v := (.bool true)) rfl ?_
          refine wpList_nil ?_
          refine then_n ?_
          refine wp_ret ?_
          refine ret1 rfl (show ev _ _ _ = (.bool true) from rfl) ?_
          exact ⟨true, rfl, hS18.done.forget, hP⟩

end Go.Proofs.Ytehmnkholidanaa
