/- A call does what its plain meaning says, and leaves the memory that was there as it was: law26_IdentityTells. -/
import Derived.Test.YtehmnkholidanaaRows
import Derived.Test.YtehmnkholidanaaFlLift
import Derived.Test.YtehmnkholidanaaPuLTells
import Derived.KernelRfl
import Derived.Test.YtehmnkholidanaaLwB
namespace Go.Proofs.Ytehmnkholidanaa
open Go Go.RowKit Go.Fl
set_option maxHeartbeats 2000000 in
theorem w_law26_IdentityTells {σ : Hv} {w : World} (l_p : (List UInt8)) (v1 : Value) {K : Bool → Prop} (hV : View σ w) (hr1 : RSl 1 RU8 σ v1 l_p) (hP : P_law26_IdentityTells l_p K) :
    Calls Try.prog 9 #[v1] w (fun e w1 => ∃ (r1 : Bool), e = .returned (.bool (r1)) ∧ Grow [] σ w σ w1 ∧ K r1) := by
  unfold P_law26_IdentityTells at hP
  obtain ⟨a1, cap1, rfl⟩ := hr1.shape
  refine enter Try.func9 rfl rfl rfl ?_
  have hS := St.start hV
  refine seq_reg ?_
  refine o_assign (v := (.bool false)) rfl ?_
  refine wpList_nil ?_
  refine then_n ?_
  refine wp_seq ?_
  refine seq_reg ?_
  obtain ⟨Y1, hK1, hc1⟩ := hP
  refine o_call (args := []) rfl Try.call11 (Calls.mono (w_law26_awake hS.view hc1) ?_)
  rintro _ w1 ⟨r1_, rfl, hg1, hY1⟩
  refine ⟨_, rfl, ?_⟩
  have hS1 := hS.grow hg1
  replace hP := hK1 r1_ hY1
  refine o_not (r := (!r1_)) rfl rfl ?_
  refine wpList_nil ?_
  refine then_n ?_
  refine if_nb rfl (fun ht1 => ?_) (fun ht1 => ?_)
  · replace hP := hP.2 (by simp [ht1])
    refine seq_reg ?_
    refine o_assign (v := (.bool false)) rfl ?_
    refine wpList_nil ?_
    refine then_n ?_
    refine wp_ret ?_
    refine then_r ?_
    refine ret1 rfl (show ev _ _ _ = (.bool false) from rfl) ?_
    exact ⟨false, rfl, hS1.done.forget, hP⟩
  · replace hP := hP.1 ht1
    refine wp_skip ?_
    refine then_n ?_
    refine wp_seq ?_
    refine seq_reg ?_
    refine o_move (v := (.slice a1 l_p.length cap1)) rfl ?_
    refine o_len_slice rfl Try.underlying22 ?_
    have hlen1 := RSl.len63 hr1
    replace hP := hP hlen1
    refine o_gtr (r := (decide ((60 : Int) < ((l_p.length : Nat) : Int)))) rfl rfl rfl ?_
    refine wpList_nil ?_
    refine then_n ?_
    refine if_d ((60 : Int) < ((l_p.length : Nat) : Int)) rfl (fun ht2 => ?_) (fun ht2 => ?_)
    · replace hP := hP.1 ht2
      refine seq_reg ?_
      refine o_assign (v := (.bool true)) rfl ?_
      refine wpList_nil ?_
      refine then_n ?_
      refine wp_ret ?_
      refine then_r ?_
      refine ret1 rfl (show ev _ _ _ = (.bool true) from rfl) ?_
      exact ⟨true, rfl, hS1.done.forget, hP⟩
    · replace hP := hP.2 ht2
      refine wp_skip ?_
      refine then_n ?_
      refine seq_reg ?_
      refine o_move (v := (.slice a1 l_p.length cap1)) rfl ?_
      obtain ⟨Y2, hK2, hc2⟩ := hP
      refine o_call (args := [(.slice a1 l_p.length cap1), (.bool true)]) rfl Try.call12 (Calls.mono (w_data_Links l_p true (.slice a1 l_p.length cap1) hS1.view hr1 hc2) ?_)
      rintro _ w2 ⟨r2_, v2, σ1, rfl, hg2, hr2, hY2⟩
      refine ⟨_, rfl, ?_⟩
      have hS2 := hS1.grow hg2
      replace hP := hK2 r2_ hY2
      obtain ⟨a2, cap2, rfl⟩ := hr2.shape
      refine o_assign (v := (.slice a2 r2_.length cap2)) rfl ?_
      refine wpList_nil ?_
      refine then_n ?_
      refine seq_reg ?_
      obtain ⟨Y3, hK3, hc3⟩ := hP
      refine o_call (args := []) rfl Try.call14 (Calls.mono (w_data_Ids hS2.view hc3) ?_)
      rintro _ w3 ⟨r3_, v3, rfl, hg3, hl1, ho1, hY3⟩
      refine ⟨_, rfl, ?_⟩
      have hS3 := hS2.growAdd hg3 (o := vec v3 9 1 r3_.length ((r3_).flatMap encTx)) ho1
      replace hP := hK3 r3_ hY3
      refine o_bslice (cs := [(.string (⟨#[122, 111, 101]⟩ : ByteArray))]) (e := 9) hS3 (fun _ => by kernel_rfl) ?_
      intro b1 w4 hS4
      obtain ⟨hsm1, hP⟩ := hP
      refine o_app (Ms := fun v4 => [blk b1 9 ([(.string (⟨#[122, 111, 101]⟩ : ByteArray))]), vec v4 9 1 ((r3_ ++ ([(⟨#[122, 111, 101]⟩ : ByteArray)])).length) ((r3_ ++ ([(⟨#[122, 111, 101]⟩ : ByteArray)])).flatMap encTx)]) (k' := (r3_ ++ ([(⟨#[122, 111, 101]⟩ : ByteArray)])).length) (xs' := (r3_ ++ ([(⟨#[122, 111, 101]⟩ : ByteArray)])).flatMap encTx) Try.underlying29 Try.type9 rfl rfl (bytes := 16) rfl rfl (Nat.succ_pos _) hS4 rfl (q := 1) rfl rfl rfl (blk_row (hS4.get (i := 0) rfl)) (ones rfl) hsm1 (by omega) (by first | rfl | simp) (by simp [encTx]) (fun _ => rfl) ?_
      intro v4 w5 ho2 hS5
      have hS6 := hS5.drop 0 (ms' := [vec v4 9 1 ((r3_ ++ ([(⟨#[122, 111, 101]⟩ : ByteArray)])).length) ((r3_ ++ ([(⟨#[122, 111, 101]⟩ : ByteArray)])).flatMap encTx)]) rfl
      refine o_assign (v := v4) rfl ?_
      refine wpList_nil ?_
      refine then_n ?_
      refine wp_seq ?_
      refine seq_reg ?_
      refine o_assign (v := (.int .i64 (0 : Int))) rfl ?_
      refine wpList_nil ?_
      refine then_n ?_
      refine wp_block ?_
      refine lp_loop1 (fun i_2 f z => ∃ (σ2 : Hv) (g : Fr), f = (upd (upd (upd g 3 (.slice a2 r2_.length cap2)) 4 v4) 5 (.int .i64 ((i_2 : Nat) : Int))) ∧ St ⟨w, σ, []⟩ z σ2 [vec v4 9 1 ((r3_ ++ ([(⟨#[122, 111, 101]⟩ : ByteArray)])).length) ((r3_ ++ ([(⟨#[122, 111, 101]⟩ : ByteArray)])).flatMap encTx)] ∧ Sub σ1 σ2) hP ⟨σ1, _, (upd_in rfl (upd_in rfl (upd_in rfl rfl))), hS6, (Sub.refl _)⟩ ?_
      clear hP
      rintro i_2 Y4 hP f w6 ⟨σ2, g, rfl, hS7, hsub1⟩
      refine wp_seq ?_
      refine seq_reg ?_
      refine o_move (v := (.int .i64 ((i_2 : Nat) : Int))) rfl ?_
      refine o_move (v := v4) rfl ?_
      refine o_len_vec hS7 rfl (i := 0) rfl Try.underlying29 ?_
      have hlen2 : (r3_ ++ ([(⟨#[122, 111, 101]⟩ : ByteArray)])).length ≤ 9223372036854775807 := by have := hsm1; unfold Sml at this; omega
      replace hP := hP hlen2
      refine o_lss (r := (decide (((i_2 : Nat) : Int) < (((r3_ ++ ([(⟨#[122, 111, 101]⟩ : ByteArray)])).length : Nat) : Int)))) rfl rfl rfl ?_
      refine wpList_nil ?_
      refine then_n ?_
      refine if_d (((i_2 : Nat) : Int) < (((r3_ ++ ([(⟨#[122, 111, 101]⟩ : ByteArray)])).length : Nat) : Int)) rfl (fun ht3 => ?_) (fun ht3 => ?_)
      · replace hP := hP.1 ht3
        refine wp_skip ?_
        refine then_n ?_
        refine wp_seq ?_
        refine wp_block ?_
        refine wp_seq ?_
        refine wp_seq ?_
        refine d_reg (fun z => St ⟨w, σ, []⟩ z σ2 [vec v4 9 1 ((r3_ ++ ([(⟨#[122, 111, 101]⟩ : ByteArray)])).length) ((r3_ ++ ([(⟨#[122, 111, 101]⟩ : ByteArray)])).flatMap encTx)]) (by kernel_rfl) rfl rfl ?_
        have hS8 := hS7.drew
        refine d_take (i := 0) (v := (.slice a2 r2_.length cap2)) (l' := #[true, false, false, false, false, false, false, false, false, false, false, false, false, false, false, false, false, false, false, false, false, false, false, false, false, false, false, false, false]) rfl (by kernel_rfl) (by kernel_rfl) (by kernel_rfl) rfl rfl (fun _ _ _ h => h) hS8 (fun w hJ K hK => ?_) ?_
        · refine o_move (v := (.slice a2 r2_.length cap2)) rfl ?_
          exact ⟨rfl, hK⟩
        refine d_take (i := 1) (v := v4) (l' := #[true, true, false, false, false, false, false, false, false, false, false, false, false, false, false, false, false, false, false, false, false, false, false, false, false, false, false, false, false]) rfl (by kernel_rfl) (by kernel_rfl) (by kernel_rfl) rfl rfl (fun _ _ _ h => h) hS8 (fun w hJ K hK => ?_) ?_
        · refine o_move (v := v4) rfl ?_
          exact ⟨rfl, hK⟩
        refine d_take (i := 2) (v := (.int .i64 ((i_2 : Nat) : Int))) (l' := #[true, true, true, false, false, false, false, false, false, false, false, false, false, false, false, false, false, false, false, false, false, false, false, false, false, false, false, false, false]) rfl (by kernel_rfl) (by kernel_rfl) (by kernel_rfl) rfl rfl (fun _ _ _ h => h) hS8 (fun w hJ K hK => ?_) ?_
        · refine o_move (v := (.int .i64 ((i_2 : Nat) : Int))) rfl ?_
          exact ⟨rfl, hK⟩
        obtain ⟨x1_, hx1⟩ := getq (l := r3_ ++ ([(⟨#[122, 111, 101]⟩ : ByteArray)])) (k := i_2) (by have := ht3; omega)
        replace hP := hP x1_ hx1
        obtain ⟨g1, cp1, hv1⟩ := vec_posv (hS8.get (i := 0) rfl) (lt_of_getq hx1)
        refine d_take (i := 3) (v := (.pointer (some ⟨g1, i_2 * 1, none⟩))) (l' := #[true, true, true, true, false, false, false, false, false, false, false, false, false, false, false, false, false, false, false, false, false, false, false, false, false, false, false, false, false]) rfl (by kernel_rfl) (by kernel_rfl) (by kernel_rfl) rfl rfl (fun _ _ _ h => h) hS8 (fun w hJ K hK => ?_) ?_
        · refine o_iaddr_slice (k := i_2) (a' := ⟨g1, i_2 * 1, none⟩) hv1 rfl rfl (lt_of_getq hx1) Try.underlying29 Try.sizeOf9 (by simp [addr_lit]) ?_
          exact ⟨rfl, hK⟩
        refine d_take (i := 4) (v := (.string x1_)) (l' := #[true, true, true, true, true, false, false, false, false, false, false, false, false, false, false, false, false, false, false, false, false, false, false, false, false, false, false, false, false]) rfl (by kernel_rfl) (by kernel_rfl) (by kernel_rfl) rfl rfl (fun _ _ _ h => h) hS8 (fun w hJ K hK => ?_) ?_
        · refine o_load (v := (.string x1_)) rfl Try.isAgg9 (vec_cellv encTx_len (j := 0) hv1 (hJ.get (i := 0) rfl) hx1 rfl) ?_
          exact ⟨rfl, hK⟩
        refine d_take (i := 6) (v := (.slice a2 r2_.length cap2)) (l' := #[true, true, true, true, true, false, true, false, false, false, false, false, false, false, false, false, false, false, false, false, false, false, false, false, false, false, false, false, false]) rfl (by kernel_rfl) (by kernel_rfl) (by kernel_rfl) rfl rfl (fun _ _ _ h => h) hS8 (fun w hJ K hK => ?_) ?_
        · refine o_move (v := (.slice a2 r2_.length cap2)) rfl ?_
          exact ⟨rfl, hK⟩
        refine d_take (i := 7) (v := v4) (l' := #[true, true, true, true, true, false, true, true, false, false, false, false, false, false, false, false, false, false, false, false, false, false, false, false, false, false, false, false, false]) rfl (by kernel_rfl) (by kernel_rfl) (by kernel_rfl) rfl rfl (fun _ _ _ h => h) hS8 (fun w hJ K hK => ?_) ?_
        · refine o_move (v := v4) rfl ?_
          exact ⟨rfl, hK⟩
        refine d_take (i := 8) (v := (.int .i64 ((i_2 : Nat) : Int))) (l' := #[true, true, true, true, true, false, true, true, true, false, false, false, false, false, false, false, false, false, false, false, false, false, false, false, false, false, false, false, false]) rfl (by kernel_rfl) (by kernel_rfl) (by kernel_rfl) rfl rfl (fun _ _ _ h => h) hS8 (fun w hJ K hK => ?_) ?_
        · refine o_move (v := (.int .i64 ((i_2 : Nat) : Int))) rfl ?_
          exact ⟨rfl, hK⟩
        obtain ⟨g2, cp2, hv2⟩ := vec_posv (hS8.get (i := 0) rfl) (lt_of_getq hx1)
        refine d_take (i := 9) (v := (.pointer (some ⟨g2, i_2 * 1, none⟩))) (l' := #[true, true, true, true, true, false, true, true, true, true, false, false, false, false, false, false, false, false, false, false, false, false, false, false, false, false, false, false, false]) rfl (by kernel_rfl) (by kernel_rfl) (by kernel_rfl) rfl rfl (fun _ _ _ h => h) hS8 (fun w hJ K hK => ?_) ?_
        · refine o_iaddr_slice (k := i_2) (a' := ⟨g2, i_2 * 1, none⟩) hv2 rfl rfl (lt_of_getq hx1) Try.underlying29 Try.sizeOf9 (by simp [addr_lit]) ?_
          exact ⟨rfl, hK⟩
        refine d_take (i := 10) (v := (.string x1_)) (l' := #[true, true, true, true, true, false, true, true, true, true, true, false, false, false, false, false, false, false, false, false, false, false, false, false, false, false, false, false, false]) rfl (by kernel_rfl) (by kernel_rfl) (by kernel_rfl) rfl rfl (fun _ _ _ h => h) hS8 (fun w hJ K hK => ?_) ?_
        · refine o_load (v := (.string x1_)) rfl Try.isAgg9 (vec_cellv encTx_len (j := 0) hv2 (hJ.get (i := 0) rfl) hx1 rfl) ?_
          exact ⟨rfl, hK⟩
        refine d_one (i := 5) (by kernel_rfl) rfl (l' := #[true, true, true, true, true, true, true, true, true, true, true, false, false, false, false, false, false, false, false, false, false, false, false, false, false, false, false, false, false]) rfl ?_
        obtain ⟨Y5, hK4, hc4⟩ := hP
        refine o_call (args := [(.slice a2 r2_.length cap2), (.string x1_)]) rfl Try.call18 (Calls.mono (w_identity_Members r2_ x1_ (.slice a2 r2_.length cap2) hS8.view (RSl.menc hsub1 hr2) hc4) ?_)
        rintro _ w7 ⟨r4_, v5, σ3, rfl, hg4, hr4, hY4⟩
        refine ⟨_, rfl, ?_⟩
        have hS9 := hS8.grow hg4
        replace hP := hK4 r4_ hY4
        obtain ⟨a3, cap3, rfl⟩ := hr4.shape
        refine wpList_nil ?_
        refine ⟨rfl, (hS9.less hS8 hg4.sub), wpJ_weak (J' := fun z => St ⟨w, σ, []⟩ z σ3 [vec v4 9 1 ((r3_ ++ ([(⟨#[122, 111, 101]⟩ : ByteArray)])).length) ((r3_ ++ ([(⟨#[122, 111, 101]⟩ : ByteArray)])).flatMap encTx)]) (fun w h => (h.less hS8 hg4.sub).sublist (by first | exact List.nil_sublist _ | simp)) _ _ _ _ ?_⟩
        refine d_one (i := 11) (by kernel_rfl) rfl (l' := #[true, true, true, true, true, true, true, true, true, true, true, true, false, false, false, false, false, false, false, false, false, false, false, false, false, false, false, false, false]) rfl ?_
        obtain ⟨Y6, hK5, hc5⟩ := hP
        refine o_call (args := [(.slice a2 r2_.length cap2), (.string x1_)]) rfl Try.call24 (Calls.mono (w_ref26_Members r2_ x1_ (.slice a2 r2_.length cap2) hS9.view (RSl.menc (Sub.trans hsub1 hg4.sub) hr2) hc5) ?_)
        rintro _ w8 ⟨r5_, v6, σ4, rfl, hg5, hr5, hY5⟩
        refine ⟨_, rfl, ?_⟩
        have hS10 := hS9.grow hg5
        replace hP := hK5 r5_ hY5
        obtain ⟨a4, cap4, rfl⟩ := hr5.shape
        refine wpList_nil ?_
        refine ⟨rfl, (hS10.less hS9 hg5.sub), wpJ_weak (J' := fun z => St ⟨w, σ, []⟩ z σ4 [vec v4 9 1 ((r3_ ++ ([(⟨#[122, 111, 101]⟩ : ByteArray)])).length) ((r3_ ++ ([(⟨#[122, 111, 101]⟩ : ByteArray)])).flatMap encTx)]) (fun w h => (h.less hS9 hg5.sub).sublist (by first | exact List.nil_sublist _ | simp)) _ _ _ _ ?_⟩
        refine d_one (i := 12) (by kernel_rfl) rfl (l' := #[true, true, true, true, true, true, true, true, true, true, true, true, true, false, false, false, false, false, false, false, false, false, false, false, false, false, false, false, false]) rfl ?_
        obtain ⟨Y7, hK6, hc6⟩ := hP
        refine o_call (args := [(.slice a3 r4_.length cap3), (.slice a4 r5_.length cap4)]) rfl Try.call19 (Calls.mono (w_ref1_Same r4_ r5_ (.slice a3 r4_.length cap3) (.slice a4 r5_.length cap4) hS10.view (RSl.menc hg5.sub hr4) hr5 hc6) ?_)
        rintro _ w9 ⟨r6_, rfl, hg6, hY6⟩
        refine ⟨_, rfl, ?_⟩
        have hS11 := hS10.grow hg6
        replace hP := hK6 r6_ hY6
        refine wpList_nil ?_
        refine ⟨rfl, hS11, ?_⟩
        refine d_take (i := 13) (v := (.bool (!r6_))) (l' := #[true, true, true, true, true, true, true, true, true, true, true, true, true, true, false, false, false, false, false, false, false, false, false, false, false, false, false, false, false]) rfl (by kernel_rfl) (by kernel_rfl) (by kernel_rfl) rfl rfl (fun _ _ _ h => h) hS11 (fun w hJ K hK => ?_) ?_
        · refine o_not (r := (!r6_)) rfl rfl ?_
          exact ⟨rfl, hK⟩
        rcases Bool.eq_false_or_eq_true (r6_) with hb1 | hb1
        · replace hP := hP.1 hb1
          refine d_take (i := 14) (v := (.bool false)) (l' := #[true, true, true, true, true, true, true, true, true, true, true, true, true, true, true, false, false, false, false, false, false, false, false, false, false, false, false, false, false]) rfl (by kernel_rfl) (by kernel_rfl) (by kernel_rfl) rfl rfl (fun _ _ _ h => h) hS11 (fun w hJ K hK => ?_) ?_
          · refine o_move (v := (.bool false)) (congrArg Value.bool (congrArg Bool.not hb1)) ?_
            exact ⟨rfl, hK⟩
          refine d_take (i := 15) (v := (.slice a2 r2_.length cap2)) (l' := #[true, true, true, true, true, true, true, true, true, true, true, true, true, true, true, true, false, false, false, false, false, false, false, false, false, false, false, false, false]) rfl (by kernel_rfl) (by kernel_rfl) (by kernel_rfl) rfl rfl (fun _ _ _ h => h) hS11 (fun w hJ K hK => ?_) ?_
          · refine o_on rfl rfl ?_
            refine o_move (v := (.slice a2 r2_.length cap2)) rfl ?_
            exact ⟨rfl, hK⟩
          refine d_take (i := 16) (v := v4) (l' := #[true, true, true, true, true, true, true, true, true, true, true, true, true, true, true, true, true, false, false, false, false, false, false, false, false, false, false, false, false]) rfl (by kernel_rfl) (by kernel_rfl) (by kernel_rfl) rfl rfl (fun _ _ _ h => h) hS11 (fun w hJ K hK => ?_) ?_
          · refine o_on rfl rfl ?_
            refine o_move (v := v4) rfl ?_
            exact ⟨rfl, hK⟩
          refine d_take (i := 17) (v := (.int .i64 ((i_2 : Nat) : Int))) (l' := #[true, true, true, true, true, true, true, true, true, true, true, true, true, true, true, true, true, true, false, false, false, false, false, false, false, false, false, false, false]) rfl (by kernel_rfl) (by kernel_rfl) (by kernel_rfl) rfl rfl (fun _ _ _ h => h) hS11 (fun w hJ K hK => ?_) ?_
          · refine o_on rfl rfl ?_
            refine o_move (v := (.int .i64 ((i_2 : Nat) : Int))) rfl ?_
            exact ⟨rfl, hK⟩
          obtain ⟨g3, cp3, hv3⟩ := vec_posv (hS11.get (i := 0) rfl) (lt_of_getq hx1)
          refine d_take (i := 18) (v := (.pointer (some ⟨g3, i_2 * 1, none⟩))) (l' := #[true, true, true, true, true, true, true, true, true, true, true, true, true, true, true, true, true, true, true, false, false, false, false, false, false, false, false, false, false]) rfl (by kernel_rfl) (by kernel_rfl) (by kernel_rfl) rfl rfl (fun _ _ _ h => h) hS11 (fun w hJ K hK => ?_) ?_
          · refine o_on rfl rfl ?_
            refine o_iaddr_slice (k := i_2) (a' := ⟨g3, i_2 * 1, none⟩) hv3 rfl rfl (lt_of_getq hx1) Try.underlying29 Try.sizeOf9 (by simp [addr_lit]) ?_
            exact ⟨rfl, hK⟩
          refine d_take (i := 19) (v := (.string x1_)) (l' := #[true, true, true, true, true, true, true, true, true, true, true, true, true, true, true, true, true, true, true, true, false, false, false, false, false, false, false, false, false]) rfl (by kernel_rfl) (by kernel_rfl) (by kernel_rfl) rfl rfl (fun _ _ _ h => h) hS11 (fun w hJ K hK => ?_) ?_
          · refine o_on rfl rfl ?_
            refine o_load (v := (.string x1_)) rfl Try.isAgg9 (vec_cellv encTx_len (j := 0) hv3 (hJ.get (i := 0) rfl) hx1 rfl) ?_
            exact ⟨rfl, hK⟩
          refine d_take (i := 21) (v := (.slice a2 r2_.length cap2)) (l' := #[true, true, true, true, true, true, true, true, true, true, true, true, true, true, true, true, true, true, true, true, false, true, false, false, false, false, false, false, false]) rfl (by kernel_rfl) (by kernel_rfl) (by kernel_rfl) rfl rfl (fun _ _ _ h => h) hS11 (fun w hJ K hK => ?_) ?_
          · refine o_on rfl rfl ?_
            refine o_move (v := (.slice a2 r2_.length cap2)) rfl ?_
            exact ⟨rfl, hK⟩
          refine d_take (i := 22) (v := v4) (l' := #[true, true, true, true, true, true, true, true, true, true, true, true, true, true, true, true, true, true, true, true, false, true, true, false, false, false, false, false, false]) rfl (by kernel_rfl) (by kernel_rfl) (by kernel_rfl) rfl rfl (fun _ _ _ h => h) hS11 (fun w hJ K hK => ?_) ?_
          · refine o_on rfl rfl ?_
            refine o_move (v := v4) rfl ?_
            exact ⟨rfl, hK⟩
          refine d_take (i := 23) (v := (.int .i64 ((i_2 : Nat) : Int))) (l' := #[true, true, true, true, true, true, true, true, true, true, true, true, true, true, true, true, true, true, true, true, false, true, true, true, false, false, false, false, false]) rfl (by kernel_rfl) (by kernel_rfl) (by kernel_rfl) rfl rfl (fun _ _ _ h => h) hS11 (fun w hJ K hK => ?_) ?_
          · refine o_on rfl rfl ?_
            refine o_move (v := (.int .i64 ((i_2 : Nat) : Int))) rfl ?_
            exact ⟨rfl, hK⟩
          obtain ⟨g4, cp4, hv4⟩ := vec_posv (hS11.get (i := 0) rfl) (lt_of_getq hx1)
          refine d_take (i := 24) (v := (.pointer (some ⟨g4, i_2 * 1, none⟩))) (l' := #[true, true, true, true, true, true, true, true, true, true, true, true, true, true, true, true, true, true, true, true, false, true, true, true, true, false, false, false, false]) rfl (by kernel_rfl) (by kernel_rfl) (by kernel_rfl) rfl rfl (fun _ _ _ h => h) hS11 (fun w hJ K hK => ?_) ?_
          · refine o_on rfl rfl ?_
            refine o_iaddr_slice (k := i_2) (a' := ⟨g4, i_2 * 1, none⟩) hv4 rfl rfl (lt_of_getq hx1) Try.underlying29 Try.sizeOf9 (by simp [addr_lit]) ?_
            exact ⟨rfl, hK⟩
          refine d_take (i := 25) (v := (.string x1_)) (l' := #[true, true, true, true, true, true, true, true, true, true, true, true, true, true, true, true, true, true, true, true, false, true, true, true, true, true, false, false, false]) rfl (by kernel_rfl) (by kernel_rfl) (by kernel_rfl) rfl rfl (fun _ _ _ h => h) hS11 (fun w hJ K hK => ?_) ?_
          · refine o_on rfl rfl ?_
            refine o_load (v := (.string x1_)) rfl Try.isAgg9 (vec_cellv encTx_len (j := 0) hv4 (hJ.get (i := 0) rfl) hx1 rfl) ?_
            exact ⟨rfl, hK⟩
          refine d_one (i := 20) (by kernel_rfl) rfl (l' := #[true, true, true, true, true, true, true, true, true, true, true, true, true, true, true, true, true, true, true, true, true, true, true, true, true, true, false, false, false]) rfl ?_
          refine o_on rfl rfl ?_
          obtain ⟨Y8, hK7, hc7⟩ := hP
          refine o_call (args := [(.slice a2 r2_.length cap2), (.string x1_)]) rfl Try.call20 (Calls.mono (w_identity_Root r2_ x1_ (.slice a2 r2_.length cap2) hS11.view (RSl.menc (Sub.trans (Sub.trans hsub1 hg4.sub) hg5.sub) hr2) hc7) ?_)
          rintro _ w10 ⟨r7_, rfl, hg7, hY7⟩
          refine ⟨_, rfl, ?_⟩
          have hS12 := hS11.grow hg7
          replace hP := hK7 r7_ hY7
          refine wpList_nil ?_
          refine ⟨rfl, hS12, ?_⟩
          refine d_one (i := 26) (by kernel_rfl) rfl (l' := #[true, true, true, true, true, true, true, true, true, true, true, true, true, true, true, true, true, true, true, true, true, true, true, true, true, true, true, false, false]) rfl ?_
          refine o_on rfl rfl ?_
          obtain ⟨Y9, hK8, hc8⟩ := hP
          refine o_call (args := [(.slice a2 r2_.length cap2), (.string x1_)]) rfl Try.call25 (Calls.mono (w_ref26_Root r2_ x1_ (.slice a2 r2_.length cap2) hS12.view (RSl.menc (Sub.trans (Sub.trans hsub1 hg4.sub) hg5.sub) hr2) hc8) ?_)
          rintro _ w11 ⟨r8_, rfl, hg8, hY8⟩
          refine ⟨_, rfl, ?_⟩
          have hS13 := hS12.grow hg8
          replace hP := hK8 r8_ hY8
          refine wpList_nil ?_
          refine ⟨rfl, hS13, ?_⟩
          refine d_take (i := 27) (v := (.bool (!decide (r7_ = r8_)))) (l' := #[true, true, true, true, true, true, true, true, true, true, true, true, true, true, true, true, true, true, true, true, true, true, true, true, true, true, true, true, false]) rfl (by kernel_rfl) (by kernel_rfl) (by kernel_rfl) rfl rfl (fun _ _ _ h => h) hS13 (fun w hJ K hK => ?_) ?_
          · refine o_on rfl rfl ?_
            refine o_neqs (r := (!decide (r7_ = r8_))) rfl rfl rfl ?_
            exact ⟨rfl, hK⟩
          refine d_take (i := 28) (v := (.bool (!decide (r7_ = r8_)))) (l' := #[true, true, true, true, true, true, true, true, true, true, true, true, true, true, true, true, true, true, true, true, true, true, true, true, true, true, true, true, true]) rfl (by kernel_rfl) (by kernel_rfl) (by kernel_rfl) rfl rfl (fun _ _ _ h => h) hS13 (fun w hJ K hK => ?_) ?_
          · refine o_pick_f (v := (.bool (!decide (r7_ = r8_)))) rfl rfl ?_
            exact ⟨rfl, hK⟩
          refine d_done (by kernel_rfl) ?_
          refine then_n ?_
          refine if_nd (r7_ = r8_) rfl (fun ht4 => ?_) (fun ht4 => ?_)
          · replace hP := hP.2 ht4
            refine seq_reg ?_
            refine o_assign (v := (.bool false)) rfl ?_
            refine wpList_nil ?_
            refine then_n ?_
            refine wp_ret ?_
            refine then_r ?_
            refine blk_r ?_
            refine then_r ?_
            refine then_r ?_
            refine blk_r ?_
            refine then_r ?_
            refine ret1 rfl (show ev _ _ _ = (.bool false) from rfl) ?_
            exact ⟨false, rfl, hS13.done.forget, hP⟩
          · replace hP := hP.1 ht4
            refine wp_skip ?_
            refine then_n ?_
            refine seq_reg ?_
            refine o_assign (v := (.int .i64 (0 : Int))) rfl ?_
            refine wpList_nil ?_
            refine then_n ?_
            refine wp_block ?_
            refine lp_loop1 (fun k_2 f z => ∃ (σ5 : Hv) (g : Fr), f = (upd (upd (upd (upd (upd (upd (upd (upd (upd (upd (upd (upd (upd (upd (upd (upd (upd g 3 (.slice a2 r2_.length cap2)) 4 v4) 5 (.int .i64 ((i_2 : Nat) : Int))) 6 (.int .i64 ((k_2 : Nat) : Int))) 43 (.slice a2 r2_.length cap2)) 44 v4) 45 (.int .i64 ((i_2 : Nat) : Int))) 46 (.pointer (some ⟨g3, i_2 * 1, none⟩))) 47 (.string x1_)) 48 (.string r7_)) 49 (.slice a2 r2_.length cap2)) 50 v4) 51 (.int .i64 ((i_2 : Nat) : Int))) 52 (.pointer (some ⟨g4, i_2 * 1, none⟩))) 53 (.string x1_)) 54 (.string r8_)) 55 (.bool (!decide (r7_ = r8_)))) ∧ St ⟨w, σ, []⟩ z σ5 [vec v4 9 1 ((r3_ ++ ([(⟨#[122, 111, 101]⟩ : ByteArray)])).length) ((r3_ ++ ([(⟨#[122, 111, 101]⟩ : ByteArray)])).flatMap encTx)] ∧ Sub σ4 σ5) hP ⟨σ4, _, (upd_in rfl (upd_in rfl (upd_in rfl (upd_in rfl (upd_in rfl (upd_in rfl (upd_in rfl (upd_in rfl (upd_in rfl (upd_in rfl (upd_in rfl (upd_in rfl (upd_in rfl (upd_in rfl (upd_in rfl (upd_in rfl (upd_in rfl rfl))))))))))))))))), hS13, (Sub.refl _)⟩ ?_
            clear hP
            rintro k_2 Y10 hP f w12 ⟨σ5, g, rfl, hS14, hsub2⟩
            refine wp_seq ?_
            refine seq_reg ?_
            refine o_move (v := (.int .i64 ((k_2 : Nat) : Int))) rfl ?_
            refine o_move (v := v4) rfl ?_
            refine o_len_vec hS14 rfl (i := 0) rfl Try.underlying29 ?_
            refine o_lss (r := (decide (((k_2 : Nat) : Int) < (((r3_ ++ ([(⟨#[122, 111, 101]⟩ : ByteArray)])).length : Nat) : Int)))) rfl rfl rfl ?_
            refine wpList_nil ?_
            refine then_n ?_
            refine if_d (((k_2 : Nat) : Int) < (((r3_ ++ ([(⟨#[122, 111, 101]⟩ : ByteArray)])).length : Nat) : Int)) rfl (fun ht5 => ?_) (fun ht5 => ?_)
            · replace hP := hP.1 ht5
              refine wp_skip ?_
              refine then_n ?_
              refine wp_seq ?_
              refine wp_block ?_
              refine wp_seq ?_
              refine d_reg (fun z => St ⟨w, σ, []⟩ z σ5 [vec v4 9 1 ((r3_ ++ ([(⟨#[122, 111, 101]⟩ : ByteArray)])).length) ((r3_ ++ ([(⟨#[122, 111, 101]⟩ : ByteArray)])).flatMap encTx)]) (by kernel_rfl) rfl rfl ?_
              have hS15 := hS14.drew
              refine d_take (i := 0) (v := (.slice a2 r2_.length cap2)) (l' := #[true, false, false, false, false, false, false, false, false, false, false, false, false, false, false]) rfl (by kernel_rfl) (by kernel_rfl) (by kernel_rfl) rfl rfl (fun _ _ _ h => h) hS15 (fun w hJ K hK => ?_) ?_
              · refine o_move (v := (.slice a2 r2_.length cap2)) rfl ?_
                exact ⟨rfl, hK⟩
              refine d_take (i := 1) (v := v4) (l' := #[true, true, false, false, false, false, false, false, false, false, false, false, false, false, false]) rfl (by kernel_rfl) (by kernel_rfl) (by kernel_rfl) rfl rfl (fun _ _ _ h => h) hS15 (fun w hJ K hK => ?_) ?_
              · refine o_move (v := v4) rfl ?_
                exact ⟨rfl, hK⟩
              refine d_take (i := 2) (v := (.int .i64 ((i_2 : Nat) : Int))) (l' := #[true, true, true, false, false, false, false, false, false, false, false, false, false, false, false]) rfl (by kernel_rfl) (by kernel_rfl) (by kernel_rfl) rfl rfl (fun _ _ _ h => h) hS15 (fun w hJ K hK => ?_) ?_
              · refine o_move (v := (.int .i64 ((i_2 : Nat) : Int))) rfl ?_
                exact ⟨rfl, hK⟩
              obtain ⟨g5, cp5, hv5⟩ := vec_posv (hS15.get (i := 0) rfl) (lt_of_getq hx1)
              refine d_take (i := 3) (v := (.pointer (some ⟨g5, i_2 * 1, none⟩))) (l' := #[true, true, true, true, false, false, false, false, false, false, false, false, false, false, false]) rfl (by kernel_rfl) (by kernel_rfl) (by kernel_rfl) rfl rfl (fun _ _ _ h => h) hS15 (fun w hJ K hK => ?_) ?_
              · refine o_iaddr_slice (k := i_2) (a' := ⟨g5, i_2 * 1, none⟩) hv5 rfl rfl (lt_of_getq hx1) Try.underlying29 Try.sizeOf9 (by simp [addr_lit]) ?_
                exact ⟨rfl, hK⟩
              refine d_take (i := 4) (v := (.string x1_)) (l' := #[true, true, true, true, true, false, false, false, false, false, false, false, false, false, false]) rfl (by kernel_rfl) (by kernel_rfl) (by kernel_rfl) rfl rfl (fun _ _ _ h => h) hS15 (fun w hJ K hK => ?_) ?_
              · refine o_load (v := (.string x1_)) rfl Try.isAgg9 (vec_cellv encTx_len (j := 0) hv5 (hJ.get (i := 0) rfl) hx1 rfl) ?_
                exact ⟨rfl, hK⟩
              refine d_take (i := 5) (v := v4) (l' := #[true, true, true, true, true, true, false, false, false, false, false, false, false, false, false]) rfl (by kernel_rfl) (by kernel_rfl) (by kernel_rfl) rfl rfl (fun _ _ _ h => h) hS15 (fun w hJ K hK => ?_) ?_
              · refine o_move (v := v4) rfl ?_
                exact ⟨rfl, hK⟩
              refine d_take (i := 6) (v := (.int .i64 ((k_2 : Nat) : Int))) (l' := #[true, true, true, true, true, true, true, false, false, false, false, false, false, false, false]) rfl (by kernel_rfl) (by kernel_rfl) (by kernel_rfl) rfl rfl (fun _ _ _ h => h) hS15 (fun w hJ K hK => ?_) ?_
              · refine o_move (v := (.int .i64 ((k_2 : Nat) : Int))) rfl ?_
                exact ⟨rfl, hK⟩
              obtain ⟨x2_, hx2⟩ := getq (l := r3_ ++ ([(⟨#[122, 111, 101]⟩ : ByteArray)])) (k := k_2) (by have := ht5; omega)
              replace hP := hP x2_ hx2
              obtain ⟨g6, cp6, hv6⟩ := vec_posv (hS15.get (i := 0) rfl) (lt_of_getq hx2)
              refine d_take (i := 7) (v := (.pointer (some ⟨g6, k_2 * 1, none⟩))) (l' := #[true, true, true, true, true, true, true, true, false, false, false, false, false, false, false]) rfl (by kernel_rfl) (by kernel_rfl) (by kernel_rfl) rfl rfl (fun _ _ _ h => h) hS15 (fun w hJ K hK => ?_) ?_
              · refine o_iaddr_slice (k := k_2) (a' := ⟨g6, k_2 * 1, none⟩) hv6 rfl rfl (lt_of_getq hx2) Try.underlying29 Try.sizeOf9 (by simp [addr_lit]) ?_
                exact ⟨rfl, hK⟩
              refine d_take (i := 8) (v := (.string x2_)) (l' := #[true, true, true, true, true, true, true, true, true, false, false, false, false, false, false]) rfl (by kernel_rfl) (by kernel_rfl) (by kernel_rfl) rfl rfl (fun _ _ _ h => h) hS15 (fun w hJ K hK => ?_) ?_
              · refine o_load (v := (.string x2_)) rfl Try.isAgg9 (vec_cellv encTx_len (j := 0) hv6 (hJ.get (i := 0) rfl) hx2 rfl) ?_
                exact ⟨rfl, hK⟩
              refine d_one (i := 9) (by kernel_rfl) rfl (l' := #[true, true, true, true, true, true, true, true, true, true, false, false, false, false, false]) rfl ?_
              obtain ⟨Y11, hK9, hc9⟩ := hP
              refine o_call (args := [(.slice a2 r2_.length cap2), (.string x1_), (.string x2_)]) rfl Try.call16 (Calls.mono (w_identity_Path r2_ x1_ x2_ (.slice a2 r2_.length cap2) hS15.view (RSl.menc (Sub.trans (Sub.trans (Sub.trans hsub1 hg4.sub) hg5.sub) hsub2) hr2) hc9) ?_)
              rintro _ w13 ⟨r9_, r10_, v7, rfl, hg9, hl2, ho3, hY9⟩
              refine ⟨_, rfl, ?_⟩
              have hS16 := hS15.growAdd hg9 (o := vec v7 28 3 r9_.length ((r9_).flatMap encLk)) ho3
              replace hP := hK9 r9_ r10_ hY9
              refine wpList_nil ?_
              refine ⟨rfl, (hS16.sublist (by first | exact List.nil_sublist _ | simp)), wpJ_weak (J' := fun z => St ⟨w, σ, []⟩ z σ5 [vec v7 28 3 r9_.length ((r9_).flatMap encLk), vec v4 9 1 ((r3_ ++ ([(⟨#[122, 111, 101]⟩ : ByteArray)])).length) ((r3_ ++ ([(⟨#[122, 111, 101]⟩ : ByteArray)])).flatMap encTx)]) (fun w h => h.sublist (by first | exact List.nil_sublist _ | simp)) _ _ _ _ ?_⟩
              refine d_take (i := 10) (v := (.tuple #[v7, (.bool (r10_))])) (l' := #[true, true, true, true, true, true, true, true, true, true, true, false, false, false, false]) rfl (by kernel_rfl) (by kernel_rfl) (by kernel_rfl) rfl rfl (fun _ _ _ h => h) hS16 (fun w hJ K hK => ?_) ?_
              · refine o_move (v := (.tuple #[v7, (.bool (r10_))])) rfl ?_
                exact ⟨rfl, hK⟩
              refine d_take (i := 11) (v := v7) (l' := #[true, true, true, true, true, true, true, true, true, true, true, true, false, false, false]) rfl (by kernel_rfl) (by kernel_rfl) (by kernel_rfl) rfl rfl (fun _ _ _ h => h) hS16 (fun w hJ K hK => ?_) ?_
              · refine o_extract (v := v7) rfl rfl ?_
                exact ⟨rfl, hK⟩
              refine d_take (i := 12) (v := (.bool (r10_))) (l' := #[true, true, true, true, true, true, true, true, true, true, true, true, true, false, false]) rfl (by kernel_rfl) (by kernel_rfl) (by kernel_rfl) rfl rfl (fun _ _ _ h => h) hS16 (fun w hJ K hK => ?_) ?_
              · refine o_extract (v := (.bool (r10_))) rfl rfl ?_
                exact ⟨rfl, hK⟩
              refine d_take (i := 13) (v := v7) (l' := #[true, true, true, true, true, true, true, true, true, true, true, true, true, true, false]) rfl (by kernel_rfl) (by kernel_rfl) (by kernel_rfl) rfl rfl (fun _ _ _ h => h) hS16 (fun w hJ K hK => ?_) ?_
              · refine o_assign (v := v7) rfl ?_
                exact ⟨rfl, hK⟩
              refine d_take (i := 14) (v := (.bool (r10_))) (l' := #[true, true, true, true, true, true, true, true, true, true, true, true, true, true, true]) rfl (by kernel_rfl) (by kernel_rfl) (by kernel_rfl) rfl rfl (fun _ _ _ h => h) hS16 (fun w hJ K hK => ?_) ?_
              · refine o_assign (v := (.bool (r10_))) rfl ?_
                exact ⟨rfl, hK⟩
              refine d_done (by kernel_rfl) ?_
              refine then_n ?_
              refine wp_seq ?_
              refine d_reg (fun z => St ⟨w, σ, []⟩ z σ5 [vec v7 28 3 r9_.length ((r9_).flatMap encLk), vec v4 9 1 ((r3_ ++ ([(⟨#[122, 111, 101]⟩ : ByteArray)])).length) ((r3_ ++ ([(⟨#[122, 111, 101]⟩ : ByteArray)])).flatMap encTx)]) (by kernel_rfl) rfl rfl ?_
              have hS17 := hS16.drew
              refine d_take (i := 0) (v := (.slice a2 r2_.length cap2)) (l' := #[true, false, false, false, false, false, false, false, false, false, false, false, false, false, false]) rfl (by kernel_rfl) (by kernel_rfl) (by kernel_rfl) rfl rfl (fun _ _ _ h => h) hS17 (fun w hJ K hK => ?_) ?_
              · refine o_move (v := (.slice a2 r2_.length cap2)) rfl ?_
                exact ⟨rfl, hK⟩
              refine d_take (i := 1) (v := v4) (l' := #[true, true, false, false, false, false, false, false, false, false, false, false, false, false, false]) rfl (by kernel_rfl) (by kernel_rfl) (by kernel_rfl) rfl rfl (fun _ _ _ h => h) hS17 (fun w hJ K hK => ?_) ?_
              · refine o_move (v := v4) rfl ?_
                exact ⟨rfl, hK⟩
              refine d_take (i := 2) (v := (.int .i64 ((i_2 : Nat) : Int))) (l' := #[true, true, true, false, false, false, false, false, false, false, false, false, false, false, false]) rfl (by kernel_rfl) (by kernel_rfl) (by kernel_rfl) rfl rfl (fun _ _ _ h => h) hS17 (fun w hJ K hK => ?_) ?_
              · refine o_move (v := (.int .i64 ((i_2 : Nat) : Int))) rfl ?_
                exact ⟨rfl, hK⟩
              obtain ⟨g7, cp7, hv7⟩ := vec_posv (hS17.get (i := 1) rfl) (lt_of_getq hx1)
              refine d_take (i := 3) (v := (.pointer (some ⟨g7, i_2 * 1, none⟩))) (l' := #[true, true, true, true, false, false, false, false, false, false, false, false, false, false, false]) rfl (by kernel_rfl) (by kernel_rfl) (by kernel_rfl) rfl rfl (fun _ _ _ h => h) hS17 (fun w hJ K hK => ?_) ?_
              · refine o_iaddr_slice (k := i_2) (a' := ⟨g7, i_2 * 1, none⟩) hv7 rfl rfl (lt_of_getq hx1) Try.underlying29 Try.sizeOf9 (by simp [addr_lit]) ?_
                exact ⟨rfl, hK⟩
              refine d_take (i := 4) (v := (.string x1_)) (l' := #[true, true, true, true, true, false, false, false, false, false, false, false, false, false, false]) rfl (by kernel_rfl) (by kernel_rfl) (by kernel_rfl) rfl rfl (fun _ _ _ h => h) hS17 (fun w hJ K hK => ?_) ?_
              · refine o_load (v := (.string x1_)) rfl Try.isAgg9 (vec_cellv encTx_len (j := 0) hv7 (hJ.get (i := 1) rfl) hx1 rfl) ?_
                exact ⟨rfl, hK⟩
              refine d_take (i := 5) (v := v4) (l' := #[true, true, true, true, true, true, false, false, false, false, false, false, false, false, false]) rfl (by kernel_rfl) (by kernel_rfl) (by kernel_rfl) rfl rfl (fun _ _ _ h => h) hS17 (fun w hJ K hK => ?_) ?_
              · refine o_move (v := v4) rfl ?_
                exact ⟨rfl, hK⟩
              refine d_take (i := 6) (v := (.int .i64 ((k_2 : Nat) : Int))) (l' := #[true, true, true, true, true, true, true, false, false, false, false, false, false, false, false]) rfl (by kernel_rfl) (by kernel_rfl) (by kernel_rfl) rfl rfl (fun _ _ _ h => h) hS17 (fun w hJ K hK => ?_) ?_
              · refine o_move (v := (.int .i64 ((k_2 : Nat) : Int))) rfl ?_
                exact ⟨rfl, hK⟩
              obtain ⟨g8, cp8, hv8⟩ := vec_posv (hS17.get (i := 1) rfl) (lt_of_getq hx2)
              refine d_take (i := 7) (v := (.pointer (some ⟨g8, k_2 * 1, none⟩))) (l' := #[true, true, true, true, true, true, true, true, false, false, false, false, false, false, false]) rfl (by kernel_rfl) (by kernel_rfl) (by kernel_rfl) rfl rfl (fun _ _ _ h => h) hS17 (fun w hJ K hK => ?_) ?_
              · refine o_iaddr_slice (k := k_2) (a' := ⟨g8, k_2 * 1, none⟩) hv8 rfl rfl (lt_of_getq hx2) Try.underlying29 Try.sizeOf9 (by simp [addr_lit]) ?_
                exact ⟨rfl, hK⟩
              refine d_take (i := 8) (v := (.string x2_)) (l' := #[true, true, true, true, true, true, true, true, true, false, false, false, false, false, false]) rfl (by kernel_rfl) (by kernel_rfl) (by kernel_rfl) rfl rfl (fun _ _ _ h => h) hS17 (fun w hJ K hK => ?_) ?_
              · refine o_load (v := (.string x2_)) rfl Try.isAgg9 (vec_cellv encTx_len (j := 0) hv8 (hJ.get (i := 1) rfl) hx2 rfl) ?_
                exact ⟨rfl, hK⟩
              refine d_one (i := 9) (by kernel_rfl) rfl (l' := #[true, true, true, true, true, true, true, true, true, true, false, false, false, false, false]) rfl ?_
              obtain ⟨Y12, hK10, hc10⟩ := hP
              refine o_call (args := [(.slice a2 r2_.length cap2), (.string x1_), (.string x2_)]) rfl Try.call26 (Calls.mono (w_ref26_Path r2_ x1_ x2_ (.slice a2 r2_.length cap2) hS17.view (RSl.menc (Sub.trans (Sub.trans (Sub.trans hsub1 hg4.sub) hg5.sub) hsub2) hr2) hc10) ?_)
              rintro _ w14 ⟨r11_, r12_, v8, rfl, hg10, hl3, ho4, hY10⟩
              refine ⟨_, rfl, ?_⟩
              have hS18 := hS17.growAdd hg10 (o := vec v8 28 3 r11_.length ((r11_).flatMap encLk)) ho4
              replace hP := hK10 r11_ r12_ hY10
              refine wpList_nil ?_
              refine ⟨rfl, (hS18.sublist (by first | exact List.nil_sublist _ | simp)), wpJ_weak (J' := fun z => St ⟨w, σ, []⟩ z σ5 [vec v8 28 3 r11_.length ((r11_).flatMap encLk), vec v7 28 3 r9_.length ((r9_).flatMap encLk), vec v4 9 1 ((r3_ ++ ([(⟨#[122, 111, 101]⟩ : ByteArray)])).length) ((r3_ ++ ([(⟨#[122, 111, 101]⟩ : ByteArray)])).flatMap encTx)]) (fun w h => h.sublist (by first | exact List.nil_sublist _ | simp)) _ _ _ _ ?_⟩
              refine d_take (i := 10) (v := (.tuple #[v8, (.bool (r12_))])) (l' := #[true, true, true, true, true, true, true, true, true, true, true, false, false, false, false]) rfl (by kernel_rfl) (by kernel_rfl) (by kernel_rfl) rfl rfl (fun _ _ _ h => h) hS18 (fun w hJ K hK => ?_) ?_
              · refine o_move (v := (.tuple #[v8, (.bool (r12_))])) rfl ?_
                exact ⟨rfl, hK⟩
              refine d_take (i := 11) (v := v8) (l' := #[true, true, true, true, true, true, true, true, true, true, true, true, false, false, false]) rfl (by kernel_rfl) (by kernel_rfl) (by kernel_rfl) rfl rfl (fun _ _ _ h => h) hS18 (fun w hJ K hK => ?_) ?_
              · refine o_extract (v := v8) rfl rfl ?_
                exact ⟨rfl, hK⟩
              refine d_take (i := 12) (v := (.bool (r12_))) (l' := #[true, true, true, true, true, true, true, true, true, true, true, true, true, false, false]) rfl (by kernel_rfl) (by kernel_rfl) (by kernel_rfl) rfl rfl (fun _ _ _ h => h) hS18 (fun w hJ K hK => ?_) ?_
              · refine o_extract (v := (.bool (r12_))) rfl rfl ?_
                exact ⟨rfl, hK⟩
              refine d_take (i := 13) (v := v8) (l' := #[true, true, true, true, true, true, true, true, true, true, true, true, true, true, false]) rfl (by kernel_rfl) (by kernel_rfl) (by kernel_rfl) rfl rfl (fun _ _ _ h => h) hS18 (fun w hJ K hK => ?_) ?_
              · refine o_assign (v := v8) rfl ?_
                exact ⟨rfl, hK⟩
              refine d_take (i := 14) (v := (.bool (r12_))) (l' := #[true, true, true, true, true, true, true, true, true, true, true, true, true, true, true]) rfl (by kernel_rfl) (by kernel_rfl) (by kernel_rfl) rfl rfl (fun _ _ _ h => h) hS18 (fun w hJ K hK => ?_) ?_
              · refine o_assign (v := (.bool (r12_))) rfl ?_
                exact ⟨rfl, hK⟩
              refine d_done (by kernel_rfl) ?_
              refine then_n ?_
              refine wp_seq ?_
              refine d_reg (fun z => St ⟨w, σ, []⟩ z σ5 [vec v8 28 3 r11_.length ((r11_).flatMap encLk), vec v7 28 3 r9_.length ((r9_).flatMap encLk), vec v4 9 1 ((r3_ ++ ([(⟨#[122, 111, 101]⟩ : ByteArray)])).length) ((r3_ ++ ([(⟨#[122, 111, 101]⟩ : ByteArray)])).flatMap encTx)]) (by kernel_rfl) rfl rfl ?_
              have hS19 := hS18.drew
              refine d_take (i := 0) (v := (.slice a2 r2_.length cap2)) (l' := #[true, false, false, false, false, false, false, false, false, false, false, false, false, false, false, false, false, false, false, false, false, false, false]) rfl (by kernel_rfl) (by kernel_rfl) (by kernel_rfl) rfl rfl (fun _ _ _ h => h) hS19 (fun w hJ K hK => ?_) ?_
              · refine o_move (v := (.slice a2 r2_.length cap2)) rfl ?_
                exact ⟨rfl, hK⟩
              refine d_take (i := 1) (v := v4) (l' := #[true, true, false, false, false, false, false, false, false, false, false, false, false, false, false, false, false, false, false, false, false, false, false]) rfl (by kernel_rfl) (by kernel_rfl) (by kernel_rfl) rfl rfl (fun _ _ _ h => h) hS19 (fun w hJ K hK => ?_) ?_
              · refine o_move (v := v4) rfl ?_
                exact ⟨rfl, hK⟩
              refine d_take (i := 2) (v := (.int .i64 ((i_2 : Nat) : Int))) (l' := #[true, true, true, false, false, false, false, false, false, false, false, false, false, false, false, false, false, false, false, false, false, false, false]) rfl (by kernel_rfl) (by kernel_rfl) (by kernel_rfl) rfl rfl (fun _ _ _ h => h) hS19 (fun w hJ K hK => ?_) ?_
              · refine o_move (v := (.int .i64 ((i_2 : Nat) : Int))) rfl ?_
                exact ⟨rfl, hK⟩
              obtain ⟨g9, cp9, hv9⟩ := vec_posv (hS19.get (i := 2) rfl) (lt_of_getq hx1)
              refine d_take (i := 3) (v := (.pointer (some ⟨g9, i_2 * 1, none⟩))) (l' := #[true, true, true, true, false, false, false, false, false, false, false, false, false, false, false, false, false, false, false, false, false, false, false]) rfl (by kernel_rfl) (by kernel_rfl) (by kernel_rfl) rfl rfl (fun _ _ _ h => h) hS19 (fun w hJ K hK => ?_) ?_
              · refine o_iaddr_slice (k := i_2) (a' := ⟨g9, i_2 * 1, none⟩) hv9 rfl rfl (lt_of_getq hx1) Try.underlying29 Try.sizeOf9 (by simp [addr_lit]) ?_
                exact ⟨rfl, hK⟩
              refine d_take (i := 4) (v := (.string x1_)) (l' := #[true, true, true, true, true, false, false, false, false, false, false, false, false, false, false, false, false, false, false, false, false, false, false]) rfl (by kernel_rfl) (by kernel_rfl) (by kernel_rfl) rfl rfl (fun _ _ _ h => h) hS19 (fun w hJ K hK => ?_) ?_
              · refine o_load (v := (.string x1_)) rfl Try.isAgg9 (vec_cellv encTx_len (j := 0) hv9 (hJ.get (i := 2) rfl) hx1 rfl) ?_
                exact ⟨rfl, hK⟩
              refine d_take (i := 5) (v := v4) (l' := #[true, true, true, true, true, true, false, false, false, false, false, false, false, false, false, false, false, false, false, false, false, false, false]) rfl (by kernel_rfl) (by kernel_rfl) (by kernel_rfl) rfl rfl (fun _ _ _ h => h) hS19 (fun w hJ K hK => ?_) ?_
              · refine o_move (v := v4) rfl ?_
                exact ⟨rfl, hK⟩
              refine d_take (i := 6) (v := (.int .i64 ((k_2 : Nat) : Int))) (l' := #[true, true, true, true, true, true, true, false, false, false, false, false, false, false, false, false, false, false, false, false, false, false, false]) rfl (by kernel_rfl) (by kernel_rfl) (by kernel_rfl) rfl rfl (fun _ _ _ h => h) hS19 (fun w hJ K hK => ?_) ?_
              · refine o_move (v := (.int .i64 ((k_2 : Nat) : Int))) rfl ?_
                exact ⟨rfl, hK⟩
              obtain ⟨g10, cp10, hv10⟩ := vec_posv (hS19.get (i := 2) rfl) (lt_of_getq hx2)
              refine d_take (i := 7) (v := (.pointer (some ⟨g10, k_2 * 1, none⟩))) (l' := #[true, true, true, true, true, true, true, true, false, false, false, false, false, false, false, false, false, false, false, false, false, false, false]) rfl (by kernel_rfl) (by kernel_rfl) (by kernel_rfl) rfl rfl (fun _ _ _ h => h) hS19 (fun w hJ K hK => ?_) ?_
              · refine o_iaddr_slice (k := k_2) (a' := ⟨g10, k_2 * 1, none⟩) hv10 rfl rfl (lt_of_getq hx2) Try.underlying29 Try.sizeOf9 (by simp [addr_lit]) ?_
                exact ⟨rfl, hK⟩
              refine d_take (i := 8) (v := (.string x2_)) (l' := #[true, true, true, true, true, true, true, true, true, false, false, false, false, false, false, false, false, false, false, false, false, false, false]) rfl (by kernel_rfl) (by kernel_rfl) (by kernel_rfl) rfl rfl (fun _ _ _ h => h) hS19 (fun w hJ K hK => ?_) ?_
              · refine o_load (v := (.string x2_)) rfl Try.isAgg9 (vec_cellv encTx_len (j := 0) hv10 (hJ.get (i := 2) rfl) hx2 rfl) ?_
                exact ⟨rfl, hK⟩
              refine d_take (i := 10) (v := (.bool (r12_))) (l' := #[true, true, true, true, true, true, true, true, true, false, true, false, false, false, false, false, false, false, false, false, false, false, false]) rfl (by kernel_rfl) (by kernel_rfl) (by kernel_rfl) rfl rfl (fun _ _ _ h => h) hS19 (fun w hJ K hK => ?_) ?_
              · refine o_move (v := (.bool (r12_))) rfl ?_
                exact ⟨rfl, hK⟩
              refine d_one (i := 9) (by kernel_rfl) rfl (l' := #[true, true, true, true, true, true, true, true, true, true, true, false, false, false, false, false, false, false, false, false, false, false, false]) rfl ?_
              obtain ⟨Y13, hK11, hc11⟩ := hP
              refine o_call (args := [(.slice a2 r2_.length cap2), (.string x1_), (.string x2_)]) rfl Try.call15 (Calls.mono (w_identity_Same r2_ x1_ x2_ (.slice a2 r2_.length cap2) hS19.view (RSl.menc (Sub.trans (Sub.trans (Sub.trans hsub1 hg4.sub) hg5.sub) hsub2) hr2) hc11) ?_)
              rintro _ w15 ⟨r13_, rfl, hg11, hY11⟩
              refine ⟨_, rfl, ?_⟩
              have hS20 := hS19.grow hg11
              replace hP := hK11 r13_ hY11
              refine wpList_nil ?_
              refine ⟨rfl, hS20, ?_⟩
              refine d_take (i := 11) (v := (.bool (!(r13_) == (r12_)))) (l' := #[true, true, true, true, true, true, true, true, true, true, true, true, false, false, false, false, false, false, false, false, false, false, false]) rfl (by kernel_rfl) (by kernel_rfl) (by kernel_rfl) rfl rfl (fun _ _ _ h => h) hS20 (fun w hJ K hK => ?_) ?_
              · refine o_neqb (r := (!(r13_) == (r12_))) Try.underlying4 rfl rfl rfl ?_
                exact ⟨rfl, hK⟩
              rcases Bool.eq_false_or_eq_true ((r13_) == (r12_)) with hb2 | hb2
              · replace hP := hP.1 hb2
                refine d_take (i := 12) (v := (.bool false)) (l' := #[true, true, true, true, true, true, true, true, true, true, true, true, true, false, false, false, false, false, false, false, false, false, false]) rfl (by kernel_rfl) (by kernel_rfl) (by kernel_rfl) rfl rfl (fun _ _ _ h => h) hS20 (fun w hJ K hK => ?_) ?_
                · refine o_move (v := (.bool false)) (congrArg Value.bool (congrArg Bool.not hb2)) ?_
                  exact ⟨rfl, hK⟩
                refine d_take (i := 13) (v := (.bool (r10_))) (l' := #[true, true, true, true, true, true, true, true, true, true, true, true, true, true, false, false, false, false, false, false, false, false, false]) rfl (by kernel_rfl) (by kernel_rfl) (by kernel_rfl) rfl rfl (fun _ _ _ h => h) hS20 (fun w hJ K hK => ?_) ?_
                · refine o_on rfl rfl ?_
                  refine o_move (v := (.bool (r10_))) rfl ?_
                  exact ⟨rfl, hK⟩
                refine d_take (i := 14) (v := (.bool (r12_))) (l' := #[true, true, true, true, true, true, true, true, true, true, true, true, true, true, true, false, false, false, false, false, false, false, false]) rfl (by kernel_rfl) (by kernel_rfl) (by kernel_rfl) rfl rfl (fun _ _ _ h => h) hS20 (fun w hJ K hK => ?_) ?_
                · refine o_on rfl rfl ?_
                  refine o_move (v := (.bool (r12_))) rfl ?_
                  exact ⟨rfl, hK⟩
                refine d_take (i := 15) (v := (.bool (!(r10_) == (r12_)))) (l' := #[true, true, true, true, true, true, true, true, true, true, true, true, true, true, true, true, false, false, false, false, false, false, false]) rfl (by kernel_rfl) (by kernel_rfl) (by kernel_rfl) rfl rfl (fun _ _ _ h => h) hS20 (fun w hJ K hK => ?_) ?_
                · refine o_on rfl rfl ?_
                  refine o_neqb (r := (!(r10_) == (r12_))) Try.underlying4 rfl rfl rfl ?_
                  exact ⟨rfl, hK⟩
                refine d_take (i := 16) (v := (.bool (!(r10_) == (r12_)))) (l' := #[true, true, true, true, true, true, true, true, true, true, true, true, true, true, true, true, true, false, false, false, false, false, false]) rfl (by kernel_rfl) (by kernel_rfl) (by kernel_rfl) rfl rfl (fun _ _ _ h => h) hS20 (fun w hJ K hK => ?_) ?_
                · refine o_pick_f (v := (.bool (!(r10_) == (r12_)))) rfl rfl ?_
                  exact ⟨rfl, hK⟩
                rcases Bool.eq_false_or_eq_true ((r10_) == (r12_)) with hb3 | hb3
                · replace hP := hP.1 hb3
                  refine d_take (i := 17) (v := (.bool false)) (l' := #[true, true, true, true, true, true, true, true, true, true, true, true, true, true, true, true, true, true, false, false, false, false, false]) rfl (by kernel_rfl) (by kernel_rfl) (by kernel_rfl) rfl rfl (fun _ _ _ h => h) hS20 (fun w hJ K hK => ?_) ?_
                  · refine o_move (v := (.bool false)) (congrArg Value.bool (congrArg Bool.not hb3)) ?_
                    exact ⟨rfl, hK⟩
                  refine d_take (i := 18) (v := v7) (l' := #[true, true, true, true, true, true, true, true, true, true, true, true, true, true, true, true, true, true, true, false, false, false, false]) rfl (by kernel_rfl) (by kernel_rfl) (by kernel_rfl) rfl rfl (fun _ _ _ h => h) hS20 (fun w hJ K hK => ?_) ?_
                  · refine o_on rfl rfl ?_
                    refine o_move (v := v7) rfl ?_
                    exact ⟨rfl, hK⟩
                  refine d_take (i := 19) (v := v8) (l' := #[true, true, true, true, true, true, true, true, true, true, true, true, true, true, true, true, true, true, true, true, false, false, false]) rfl (by kernel_rfl) (by kernel_rfl) (by kernel_rfl) rfl rfl (fun _ _ _ h => h) hS20 (fun w hJ K hK => ?_) ?_
                  · refine o_on rfl rfl ?_
                    refine o_move (v := v8) rfl ?_
                    exact ⟨rfl, hK⟩
                  refine d_one (i := 20) (by kernel_rfl) rfl (l' := #[true, true, true, true, true, true, true, true, true, true, true, true, true, true, true, true, true, true, true, true, true, false, false]) rfl ?_
                  refine o_on rfl rfl ?_
                  obtain ⟨σ6, hS21, hsub3, hr8⟩ := hS20.peek (i := 1) rfl (notin0 _) encLk_len hl2
                  obtain ⟨σ7, hS22, hsub4, hr9⟩ := hS21.peek (i := 0) rfl (notin0 _) encLk_len hl3
                  obtain ⟨Y14, hK12, hc12⟩ := hP
                  refine o_call (args := [v7, v8]) rfl Try.call22 (Calls.mono (w_ref26_SameLinks r9_ r11_ v7 v8 hS22.view (RSl.menc hsub4 hr8) hr9 hc12) ?_)
                  rintro _ w16 ⟨r14_, rfl, hg12, hY12⟩
                  refine ⟨_, rfl, ?_⟩
                  have hg12b := hg12.back (Sub.trans hsub3 hsub4)
                  have hS23 := hS20.grow hg12b
                  replace hP := hK12 r14_ hY12
                  refine wpList_nil ?_
                  refine ⟨rfl, hS23, ?_⟩
                  refine d_take (i := 21) (v := (.bool (!r14_))) (l' := #[true, true, true, true, true, true, true, true, true, true, true, true, true, true, true, true, true, true, true, true, true, true, false]) rfl (by kernel_rfl) (by kernel_rfl) (by kernel_rfl) rfl rfl (fun _ _ _ h => h) hS23 (fun w hJ K hK => ?_) ?_
                  · refine o_on rfl rfl ?_
                    refine o_not (r := (!r14_)) rfl rfl ?_
                    exact ⟨rfl, hK⟩
                  refine d_take (i := 22) (v := (.bool (!r14_))) (l' := #[true, true, true, true, true, true, true, true, true, true, true, true, true, true, true, true, true, true, true, true, true, true, true]) rfl (by kernel_rfl) (by kernel_rfl) (by kernel_rfl) rfl rfl (fun _ _ _ h => h) hS23 (fun w hJ K hK => ?_) ?_
                  · refine o_pick_f (v := (.bool (!r14_))) rfl rfl ?_
                    exact ⟨rfl, hK⟩
                  refine d_done (by kernel_rfl) ?_
                  refine then_n ?_
                  refine if_nb rfl (fun ht6 => ?_) (fun ht6 => ?_)
                  · replace hP := hP.2 (by simp [ht6])
                    refine seq_reg ?_
                    refine o_assign (v := (.bool false)) rfl ?_
                    refine wpList_nil ?_
                    refine then_n ?_
                    refine wp_ret ?_
                    refine blk_r ?_
                    refine then_r ?_
                    refine then_r ?_
                    refine blk_r ?_
                    refine blk_r ?_
                    refine then_r ?_
                    refine then_r ?_
                    refine blk_r ?_
                    refine then_r ?_
                    refine ret1 rfl (show ev _ _ _ = (.bool false) from rfl) ?_
                    exact ⟨false, rfl, hS23.done.forget, hP⟩
                  · replace hP := hP.1 ht6
                    refine wp_skip ?_
                    refine blk_n ?_
                    refine then_n ?_
                    refine one_reg ?_
                    refine o_move (v := (.int .i64 ((k_2 : Nat) : Int))) rfl ?_
                    refine o_add (r := ((k_2 + 1 : Nat) : Int)) rfl rfl (nw (by omega) (by omega) (by have := hlen2; omega)) ?_
                    refine o_assign (v := (.int .i64 ((k_2 + 1 : Nat) : Int))) rfl ?_
                    refine wpList_nil ?_
                    refine then_n ?_
                    have hS24 := hS23.front 2 rfl (ms' := [vec v4 9 1 ((r3_ ++ ([(⟨#[122, 111, 101]⟩ : ByteArray)])).length) ((r3_ ++ ([(⟨#[122, 111, 101]⟩ : ByteArray)])).flatMap encTx), vec v8 28 3 r11_.length ((r11_).flatMap encLk), vec v7 28 3 r9_.length ((r9_).flatMap encLk)]) rfl
                    exact ⟨k_2 + 1, _, rfl, hP, σ5, _, (upd_in rfl (upd_in rfl (upd_in rfl (upd_in rfl (upd_in rfl (upd_in rfl (upd_in rfl (upd_in rfl (upd_in rfl (upd_in rfl (upd_in rfl (upd_in rfl (upd_in rfl (upd_in rfl (upd_in rfl (upd_in rfl (upd_in rfl rfl))))))))))))))))), (hS24.keep 1 (ms' := [vec v4 9 1 ((r3_ ++ ([(⟨#[122, 111, 101]⟩ : ByteArray)])).length) ((r3_ ++ ([(⟨#[122, 111, 101]⟩ : ByteArray)])).flatMap encTx)]) rfl), hsub2⟩
                · replace hP := hP.2 (by simp [hb3])
                  refine d_take (i := 17) (v := (.bool true)) (l' := #[true, true, true, true, true, true, true, true, true, true, true, true, true, true, true, true, true, true, false, false, false, false, false]) rfl (by kernel_rfl) (by kernel_rfl) (by kernel_rfl) rfl rfl (fun _ _ _ h => h) hS20 (fun w hJ K hK => ?_) ?_
                  · refine o_move (v := (.bool true)) (congrArg Value.bool (congrArg Bool.not hb3)) ?_
                    exact ⟨rfl, hK⟩
                  refine d_take (i := 18) (v := undef) (l' := #[true, true, true, true, true, true, true, true, true, true, true, true, true, true, true, true, true, true, true, false, false, false, false]) rfl (by kernel_rfl) (by kernel_rfl) (by kernel_rfl) rfl rfl (fun _ _ _ h => h) hS20 (fun w hJ K hK => ?_) ?_
                  · refine o_off rfl rfl ?_
                    exact ⟨rfl, hK⟩
                  refine d_take (i := 19) (v := undef) (l' := #[true, true, true, true, true, true, true, true, true, true, true, true, true, true, true, true, true, true, true, true, false, false, false]) rfl (by kernel_rfl) (by kernel_rfl) (by kernel_rfl) rfl rfl (fun _ _ _ h => h) hS20 (fun w hJ K hK => ?_) ?_
                  · refine o_off rfl rfl ?_
                    exact ⟨rfl, hK⟩
                  refine d_take (i := 20) (v := undef) (l' := #[true, true, true, true, true, true, true, true, true, true, true, true, true, true, true, true, true, true, true, true, true, false, false]) rfl (by kernel_rfl) (by kernel_rfl) (by kernel_rfl) rfl rfl (fun _ _ _ h => h) hS20 (fun w hJ K hK => ?_) ?_
                  · refine o_off rfl rfl ?_
                    exact ⟨rfl, hK⟩
                  refine d_take (i := 21) (v := undef) (l' := #[true, true, true, true, true, true, true, true, true, true, true, true, true, true, true, true, true, true, true, true, true, true, false]) rfl (by kernel_rfl) (by kernel_rfl) (by kernel_rfl) rfl rfl (fun _ _ _ h => h) hS20 (fun w hJ K hK => ?_) ?_
                  · refine o_off rfl rfl ?_
                    exact ⟨rfl, hK⟩
                  refine d_take (i := 22) (v := (.bool true)) (l' := #[true, true, true, true, true, true, true, true, true, true, true, true, true, true, true, true, true, true, true, true, true, true, true]) rfl (by kernel_rfl) (by kernel_rfl) (by kernel_rfl) rfl rfl (fun _ _ _ h => h) hS20 (fun w hJ K hK => ?_) ?_
                  · refine o_pick_t (v := (.bool true)) rfl rfl ?_
                    exact ⟨rfl, hK⟩
                  refine d_done (by kernel_rfl) ?_
                  refine then_n ?_
                  refine if_t rfl ?_
                  refine seq_reg ?_
                  refine o_assign (v := (.bool false)) rfl ?_
                  refine wpList_nil ?_
                  refine then_n ?_
                  refine wp_ret ?_
                  refine blk_r ?_
                  refine then_r ?_
                  refine then_r ?_
                  refine blk_r ?_
                  refine blk_r ?_
                  refine then_r ?_
                  refine then_r ?_
                  refine blk_r ?_
                  refine then_r ?_
                  refine ret1 rfl (show ev _ _ _ = (.bool false) from rfl) ?_
                  exact ⟨false, rfl, hS20.done.forget, hP⟩
              · replace hP := hP.2 (by simp [hb2])
                refine d_take (i := 12) (v := (.bool true)) (l' := #[true, true, true, true, true, true, true, true, true, true, true, true, true, false, false, false, false, false, false, false, false, false, false]) rfl (by kernel_rfl) (by kernel_rfl) (by kernel_rfl) rfl rfl (fun _ _ _ h => h) hS20 (fun w hJ K hK => ?_) ?_
                · refine o_move (v := (.bool true)) (congrArg Value.bool (congrArg Bool.not hb2)) ?_
                  exact ⟨rfl, hK⟩
                refine d_take (i := 13) (v := undef) (l' := #[true, true, true, true, true, true, true, true, true, true, true, true, true, true, false, false, false, false, false, false, false, false, false]) rfl (by kernel_rfl) (by kernel_rfl) (by kernel_rfl) rfl rfl (fun _ _ _ h => h) hS20 (fun w hJ K hK => ?_) ?_
                · refine o_off rfl rfl ?_
                  exact ⟨rfl, hK⟩
                refine d_take (i := 14) (v := undef) (l' := #[true, true, true, true, true, true, true, true, true, true, true, true, true, true, true, false, false, false, false, false, false, false, false]) rfl (by kernel_rfl) (by kernel_rfl) (by kernel_rfl) rfl rfl (fun _ _ _ h => h) hS20 (fun w hJ K hK => ?_) ?_
                · refine o_off rfl rfl ?_
                  exact ⟨rfl, hK⟩
                refine d_take (i := 15) (v := undef) (l' := #[true, true, true, true, true, true, true, true, true, true, true, true, true, true, true, true, false, false, false, false, false, false, false]) rfl (by kernel_rfl) (by kernel_rfl) (by kernel_rfl) rfl rfl (fun _ _ _ h => h) hS20 (fun w hJ K hK => ?_) ?_
                · refine o_off rfl rfl ?_
                  exact ⟨rfl, hK⟩
                refine d_take (i := 16) (v := (.bool true)) (l' := #[true, true, true, true, true, true, true, true, true, true, true, true, true, true, true, true, true, false, false, false, false, false, false]) rfl (by kernel_rfl) (by kernel_rfl) (by kernel_rfl) rfl rfl (fun _ _ _ h => h) hS20 (fun w hJ K hK => ?_) ?_
                · refine o_pick_t (v := (.bool true)) rfl rfl ?_
                  exact ⟨rfl, hK⟩
                refine d_take (i := 17) (v := (.bool true)) (l' := #[true, true, true, true, true, true, true, true, true, true, true, true, true, true, true, true, true, true, false, false, false, false, false]) rfl (by kernel_rfl) (by kernel_rfl) (by kernel_rfl) rfl rfl (fun _ _ _ h => h) hS20 (fun w hJ K hK => ?_) ?_
                · refine o_move (v := (.bool true)) rfl ?_
                  exact ⟨rfl, hK⟩
                refine d_take (i := 18) (v := undef) (l' := #[true, true, true, true, true, true, true, true, true, true, true, true, true, true, true, true, true, true, true, false, false, false, false]) rfl (by kernel_rfl) (by kernel_rfl) (by kernel_rfl) rfl rfl (fun _ _ _ h => h) hS20 (fun w hJ K hK => ?_) ?_
                · refine o_off rfl rfl ?_
                  exact ⟨rfl, hK⟩
                refine d_take (i := 19) (v := undef) (l' := #[true, true, true, true, true, true, true, true, true, true, true, true, true, true, true, true, true, true, true, true, false, false, false]) rfl (by kernel_rfl) (by kernel_rfl) (by kernel_rfl) rfl rfl (fun _ _ _ h => h) hS20 (fun w hJ K hK => ?_) ?_
                · refine o_off rfl rfl ?_
                  exact ⟨rfl, hK⟩
                refine d_take (i := 20) (v := undef) (l' := #[true, true, true, true, true, true, true, true, true, true, true, true, true, true, true, true, true, true, true, true, true, false, false]) rfl (by kernel_rfl) (by kernel_rfl) (by kernel_rfl) rfl rfl (fun _ _ _ h => h) hS20 (fun w hJ K hK => ?_) ?_
                · refine o_off rfl rfl ?_
                  exact ⟨rfl, hK⟩
                refine d_take (i := 21) (v := undef) (l' := #[true, true, true, true, true, true, true, true, true, true, true, true, true, true, true, true, true, true, true, true, true, true, false]) rfl (by kernel_rfl) (by kernel_rfl) (by kernel_rfl) rfl rfl (fun _ _ _ h => h) hS20 (fun w hJ K hK => ?_) ?_
                · refine o_off rfl rfl ?_
                  exact ⟨rfl, hK⟩
                refine d_take (i := 22) (v := (.bool true)) (l' := #[true, true, true, true, true, true, true, true, true, true, true, true, true, true, true, true, true, true, true, true, true, true, true]) rfl (by kernel_rfl) (by kernel_rfl) (by kernel_rfl) rfl rfl (fun _ _ _ h => h) hS20 (fun w hJ K hK => ?_) ?_
                · refine o_pick_t (v := (.bool true)) rfl rfl ?_
                  exact ⟨rfl, hK⟩
                refine d_done (by kernel_rfl) ?_
                refine then_n ?_
                refine if_t rfl ?_
                refine seq_reg ?_
                refine o_assign (v := (.bool false)) rfl ?_
                refine wpList_nil ?_
                refine then_n ?_
                refine wp_ret ?_
                refine blk_r ?_
                refine then_r ?_
                refine then_r ?_
                refine blk_r ?_
                refine blk_r ?_
                refine then_r ?_
                refine then_r ?_
                refine blk_r ?_
                refine then_r ?_
                refine ret1 rfl (show ev _ _ _ = (.bool false) from rfl) ?_
                exact ⟨false, rfl, hS20.done.forget, hP⟩
            · replace hP := hP.2 ht5
              refine wp_exit ?_
              refine then_e ?_
              refine then_e ?_
              refine blk_hit ?_
              refine blk_n ?_
              refine then_n ?_
              refine one_reg ?_
              refine o_move (v := (.int .i64 ((i_2 : Nat) : Int))) rfl ?_
              refine o_add (r := ((i_2 + 1 : Nat) : Int)) rfl rfl (nw (by omega) (by omega) (by have := hlen2; omega)) ?_
              refine o_assign (v := (.int .i64 ((i_2 + 1 : Nat) : Int))) rfl ?_
              refine wpList_nil ?_
              refine then_n ?_
              exact ⟨i_2 + 1, _, rfl, hP, σ5, _, (upd_in rfl (upd_in rfl (upd_in rfl rfl))), hS14, (Sub.trans (Sub.trans (Sub.trans hsub1 hg4.sub) hg5.sub) hsub2)⟩
        · replace hP := hP.2 (by simp [hb1])
          refine d_take (i := 14) (v := (.bool true)) (l' := #[true, true, true, true, true, true, true, true, true, true, true, true, true, true, true, false, false, false, false, false, false, false, false, false, false, false, false, false, false]) rfl (by kernel_rfl) (by kernel_rfl) (by kernel_rfl) rfl rfl (fun _ _ _ h => h) hS11 (fun w hJ K hK => ?_) ?_
          · refine o_move (v := (.bool true)) (congrArg Value.bool (congrArg Bool.not hb1)) ?_
            exact ⟨rfl, hK⟩
          refine d_take (i := 15) (v := undef) (l' := #[true, true, true, true, true, true, true, true, true, true, true, true, true, true, true, true, false, false, false, false, false, false, false, false, false, false, false, false, false]) rfl (by kernel_rfl) (by kernel_rfl) (by kernel_rfl) rfl rfl (fun _ _ _ h => h) hS11 (fun w hJ K hK => ?_) ?_
          · refine o_off rfl rfl ?_
            exact ⟨rfl, hK⟩
          refine d_take (i := 16) (v := undef) (l' := #[true, true, true, true, true, true, true, true, true, true, true, true, true, true, true, true, true, false, false, false, false, false, false, false, false, false, false, false, false]) rfl (by kernel_rfl) (by kernel_rfl) (by kernel_rfl) rfl rfl (fun _ _ _ h => h) hS11 (fun w hJ K hK => ?_) ?_
          · refine o_off rfl rfl ?_
            exact ⟨rfl, hK⟩
          refine d_take (i := 17) (v := undef) (l' := #[true, true, true, true, true, true, true, true, true, true, true, true, true, true, true, true, true, true, false, false, false, false, false, false, false, false, false, false, false]) rfl (by kernel_rfl) (by kernel_rfl) (by kernel_rfl) rfl rfl (fun _ _ _ h => h) hS11 (fun w hJ K hK => ?_) ?_
          · refine o_off rfl rfl ?_
            exact ⟨rfl, hK⟩
          refine d_take (i := 18) (v := undef) (l' := #[true, true, true, true, true, true, true, true, true, true, true, true, true, true, true, true, true, true, true, false, false, false, false, false, false, false, false, false, false]) rfl (by kernel_rfl) (by kernel_rfl) (by kernel_rfl) rfl rfl (fun _ _ _ h => h) hS11 (fun w hJ K hK => ?_) ?_
          · refine o_off rfl rfl ?_
            exact ⟨rfl, hK⟩
          refine d_take (i := 19) (v := undef) (l' := #[true, true, true, true, true, true, true, true, true, true, true, true, true, true, true, true, true, true, true, true, false, false, false, false, false, false, false, false, false]) rfl (by kernel_rfl) (by kernel_rfl) (by kernel_rfl) rfl rfl (fun _ _ _ h => h) hS11 (fun w hJ K hK => ?_) ?_
          · refine o_off rfl rfl ?_
            exact ⟨rfl, hK⟩
          refine d_take (i := 20) (v := undef) (l' := #[true, true, true, true, true, true, true, true, true, true, true, true, true, true, true, true, true, true, true, true, true, false, false, false, false, false, false, false, false]) rfl (by kernel_rfl) (by kernel_rfl) (by kernel_rfl) rfl rfl (fun _ _ _ h => h) hS11 (fun w hJ K hK => ?_) ?_
          · refine o_off rfl rfl ?_
            exact ⟨rfl, hK⟩
          refine d_take (i := 21) (v := undef) (l' := #[true, true, true, true, true, true, true, true, true, true, true, true, true, true, true, true, true, true, true, true, true, true, false, false, false, false, false, false, false]) rfl (by kernel_rfl) (by kernel_rfl) (by kernel_rfl) rfl rfl (fun _ _ _ h => h) hS11 (fun w hJ K hK => ?_) ?_
          · refine o_off rfl rfl ?_
            exact ⟨rfl, hK⟩
          refine d_take (i := 22) (v := undef) (l' := #[true, true, true, true, true, true, true, true, true, true, true, true, true, true, true, true, true, true, true, true, true, true, true, false, false, false, false, false, false]) rfl (by kernel_rfl) (by kernel_rfl) (by kernel_rfl) rfl rfl (fun _ _ _ h => h) hS11 (fun w hJ K hK => ?_) ?_
          · refine o_off rfl rfl ?_
            exact ⟨rfl, hK⟩
          refine d_take (i := 23) (v := undef) (l' := #[true, true, true, true, true, true, true, true, true, true, true, true, true, true, true, true, true, true, true, true, true, true, true, true, false, false, false, false, false]) rfl (by kernel_rfl) (by kernel_rfl) (by kernel_rfl) rfl rfl (fun _ _ _ h => h) hS11 (fun w hJ K hK => ?_) ?_
          · refine o_off rfl rfl ?_
            exact ⟨rfl, hK⟩
          refine d_take (i := 24) (v := undef) (l' := #[true, true, true, true, true, true, true, true, true, true, true, true, true, true, true, true, true, true, true, true, true, true, true, true, true, false, false, false, false]) rfl (by kernel_rfl) (by kernel_rfl) (by kernel_rfl) rfl rfl (fun _ _ _ h => h) hS11 (fun w hJ K hK => ?_) ?_
          · refine o_off rfl rfl ?_
            exact ⟨rfl, hK⟩
          refine d_take (i := 25) (v := undef) (l' := #[true, true, true, true, true, true, true, true, true, true, true, true, true, true, true, true, true, true, true, true, true, true, true, true, true, true, false, false, false]) rfl (by kernel_rfl) (by kernel_rfl) (by kernel_rfl) rfl rfl (fun _ _ _ h => h) hS11 (fun w hJ K hK => ?_) ?_
          · refine o_off rfl rfl ?_
            exact ⟨rfl, hK⟩
          refine d_take (i := 26) (v := undef) (l' := #[true, true, true, true, true, true, true, true, true, true, true, true, true, true, true, true, true, true, true, true, true, true, true, true, true, true, true, false, false]) rfl (by kernel_rfl) (by kernel_rfl) (by kernel_rfl) rfl rfl (fun _ _ _ h => h) hS11 (fun w hJ K hK => ?_) ?_
          · refine o_off rfl rfl ?_
            exact ⟨rfl, hK⟩
          refine d_take (i := 27) (v := undef) (l' := #[true, true, true, true, true, true, true, true, true, true, true, true, true, true, true, true, true, true, true, true, true, true, true, true, true, true, true, true, false]) rfl (by kernel_rfl) (by kernel_rfl) (by kernel_rfl) rfl rfl (fun _ _ _ h => h) hS11 (fun w hJ K hK => ?_) ?_
          · refine o_off rfl rfl ?_
            exact ⟨rfl, hK⟩
          refine d_take (i := 28) (v := (.bool true)) (l' := #[true, true, true, true, true, true, true, true, true, true, true, true, true, true, true, true, true, true, true, true, true, true, true, true, true, true, true, true, true]) rfl (by kernel_rfl) (by kernel_rfl) (by kernel_rfl) rfl rfl (fun _ _ _ h => h) hS11 (fun w hJ K hK => ?_) ?_
          · refine o_pick_t (v := (.bool true)) rfl rfl ?_
            exact ⟨rfl, hK⟩
          refine d_done (by kernel_rfl) ?_
          refine then_n ?_
          refine if_t rfl ?_
          refine seq_reg ?_
          refine o_assign (v := (.bool false)) rfl ?_
          refine wpList_nil ?_
          refine then_n ?_
          refine wp_ret ?_
          refine then_r ?_
          refine blk_r ?_
          refine then_r ?_
          refine then_r ?_
          refine blk_r ?_
          refine then_r ?_
          refine ret1 rfl (show ev _ _ _ = (.bool false) from rfl) ?_
          exact ⟨false, rfl, hS11.done.forget, hP⟩
      · replace hP := hP.2 ht3
        refine wp_exit ?_
        refine then_e ?_
        refine then_e ?_
        refine blk_hit ?_
        refine then_n ?_
        refine wp_seq ?_
        refine seq_reg ?_
        refine o_assign (v := (.int .i64 (-1 : Int))) rfl ?_
        refine wpList_nil ?_
        refine then_n ?_
        refine wp_block ?_
        refine lp_loop1 (fun t_2 f z => ∃ (σ8 : Hv) (g : Fr), f = (upd (upd g 3 (.slice a2 r2_.length cap2)) 11 (.int .i64 t_2)) ∧ St ⟨w, σ, []⟩ z σ8 [vec v4 9 1 ((r3_ ++ ([(⟨#[122, 111, 101]⟩ : ByteArray)])).length) ((r3_ ++ ([(⟨#[122, 111, 101]⟩ : ByteArray)])).flatMap encTx)] ∧ Sub σ2 σ8) hP ⟨σ2, _, (upd_in rfl (upd_in rfl rfl)), hS7, (Sub.refl _)⟩ ?_
        clear hP
        rintro t_2 Y15 hP f w17 ⟨σ8, g, rfl, hS25, hsub5⟩
        refine wp_seq ?_
        refine seq_reg ?_
        refine o_move (v := (.int .i64 t_2)) rfl ?_
        refine o_lss (r := (decide (t_2 < (30 : Int)))) rfl rfl rfl ?_
        refine wpList_nil ?_
        refine then_n ?_
        refine if_d (t_2 < (30 : Int)) rfl (fun ht7 => ?_) (fun ht7 => ?_)
        · replace hP := hP.1 ht7
          refine wp_skip ?_
          refine then_n ?_
          refine wp_seq ?_
          refine wp_block ?_
          refine seq_reg ?_
          refine o_move (v := (.slice a2 r2_.length cap2)) rfl ?_
          refine o_move (v := (.int .i64 t_2)) rfl ?_
          obtain ⟨Y16, hK13, hc13⟩ := hP
          refine o_call (args := [(.slice a2 r2_.length cap2), (.int .i64 t_2)]) rfl Try.call23 (Calls.mono (w_identity_Until r2_ t_2 (.slice a2 r2_.length cap2) hS25.view (RSl.menc (Sub.trans hsub1 hsub5) hr2) hc13) ?_)
          rintro _ w18 ⟨r15_, v9, σ9, rfl, hg13, hr10, hY13⟩
          refine ⟨_, rfl, ?_⟩
          have hS26 := hS25.grow hg13
          replace hP := hK13 r15_ hY13
          obtain ⟨a5, cap5, rfl⟩ := hr10.shape
          refine o_move (v := (.slice a2 r2_.length cap2)) rfl ?_
          refine o_move (v := (.int .i64 t_2)) rfl ?_
          obtain ⟨Y17, hK14, hc14⟩ := hP
          refine o_call (args := [(.slice a2 r2_.length cap2), (.int .i64 t_2)]) rfl Try.call27 (Calls.mono (w_ref26_Until r2_ t_2 (.slice a2 r2_.length cap2) hS26.view (RSl.menc (Sub.trans (Sub.trans hsub1 hsub5) hg13.sub) hr2) hc14) ?_)
          rintro _ w19 ⟨r16_, v10, σ10, rfl, hg14, hr11, hY14⟩
          refine ⟨_, rfl, ?_⟩
          have hS27 := hS26.grow hg14
          replace hP := hK14 r16_ hY14
          obtain ⟨a6, cap6, rfl⟩ := hr11.shape
          obtain ⟨Y18, hK15, hc15⟩ := hP
          refine o_call (args := [(.slice a5 r15_.length cap5), (.slice a6 r16_.length cap6)]) rfl Try.call22 (Calls.mono (w_ref26_SameLinks r15_ r16_ (.slice a5 r15_.length cap5) (.slice a6 r16_.length cap6) hS27.view (RSl.menc hg14.sub hr10) hr11 hc15) ?_)
          rintro _ w20 ⟨r17_, rfl, hg15, hY15⟩
          refine ⟨_, rfl, ?_⟩
          have hS28 := hS27.grow hg15
          replace hP := hK15 r17_ hY15
          refine o_not (r := (!r17_)) rfl rfl ?_
          refine wpList_nil ?_
          refine then_n ?_
          refine if_nb rfl (fun ht8 => ?_) (fun ht8 => ?_)
          · replace hP := hP.2 (by simp [ht8])
            refine seq_reg ?_
            refine o_assign (v := (.bool false)) rfl ?_
            refine wpList_nil ?_
            refine then_n ?_
            refine wp_ret ?_
            refine blk_r ?_
            refine then_r ?_
            refine then_r ?_
            refine blk_r ?_
            refine then_r ?_
            refine ret1 rfl (show ev _ _ _ = (.bool false) from rfl) ?_
            exact ⟨false, rfl, hS28.done.forget, hP⟩
          · replace hP := hP.1 ht8
            refine wp_skip ?_
            refine blk_n ?_
            refine then_n ?_
            refine one_reg ?_
            refine o_move (v := (.int .i64 t_2)) rfl ?_
            obtain ⟨hi1, hP⟩ := hP
            refine o_add (r := (t_2 + (1 : Int))) rfl rfl (nwi rfl hi1) ?_
            refine o_assign (v := (.int .i64 (t_2 + (1 : Int)))) rfl ?_
            refine wpList_nil ?_
            refine then_n ?_
            exact ⟨(t_2 + (1 : Int)), _, rfl, hP, σ10, _, (upd_in rfl (upd_in rfl rfl)), hS28, (Sub.trans (Sub.trans hsub5 hg13.sub) hg14.sub)⟩
        · replace hP := hP.2 ht7
          refine wp_exit ?_
          refine then_e ?_
          refine then_e ?_
          refine blk_hit ?_
          refine then_n ?_
          refine seq_reg ?_
          refine o_move (v := (.slice a2 r2_.length cap2)) rfl ?_
          obtain ⟨Y19, hK16, hc16⟩ := hP
          refine o_call (args := [(.slice a2 r2_.length cap2)]) rfl Try.call21 (Calls.mono (w_identity_Forest r2_ (.slice a2 r2_.length cap2) hS25.view (RSl.menc (Sub.trans hsub1 hsub5) hr2) hc16) ?_)
          rintro _ w21 ⟨r18_, v11, σ11, rfl, hg16, hr12, hY16⟩
          refine ⟨_, rfl, ?_⟩
          have hS29 := hS25.grow hg16
          replace hP := hK16 r18_ hY16
          obtain ⟨a7, cap7, rfl⟩ := hr12.shape
          refine o_move (v := (.slice a2 r2_.length cap2)) rfl ?_
          obtain ⟨Y20, hK17, hc17⟩ := hP
          refine o_call (args := [(.slice a2 r2_.length cap2)]) rfl Try.call28 (Calls.mono (w_ref26_Forest r2_ (.slice a2 r2_.length cap2) hS29.view (RSl.menc (Sub.trans (Sub.trans hsub1 hsub5) hg16.sub) hr2) hc17) ?_)
          rintro _ w22 ⟨r19_, v12, rfl, hg17, hl4, ho5, hY17⟩
          refine ⟨_, rfl, ?_⟩
          have hS30 := hS29.growAdd hg17 (o := vec v12 28 3 r19_.length ((r19_).flatMap encLk)) ho5
          replace hP := hK17 r19_ hY17
          obtain ⟨σ12, hS31, hsub6, hr14⟩ := hS30.peek (i := 0) rfl (notin0 _) encLk_len hl4
          obtain ⟨Y21, hK18, hc18⟩ := hP
          refine o_call (args := [(.slice a7 r18_.length cap7), v12]) rfl Try.call22 (Calls.mono (w_ref26_SameLinks r18_ r19_ (.slice a7 r18_.length cap7) v12 hS31.view (RSl.menc hsub6 hr12) hr14 hc18) ?_)
          rintro _ w23 ⟨r20_, rfl, hg18, hY18⟩
          refine ⟨_, rfl, ?_⟩
          have hg18b := hg18.back hsub6
          have hS32 := hS30.grow hg18b
          replace hP := hK18 r20_ hY18
          refine o_assign (v := (.bool (r20_))) rfl ?_
          refine wpList_nil ?_
          refine then_n ?_
          refine wp_ret ?_
          refine ret1 rfl (show ev _ _ _ = (.bool (r20_)) from rfl) ?_
          exact ⟨(r20_), rfl, hS32.done.forget, hP⟩

end Go.Proofs.Ytehmnkholidanaa
