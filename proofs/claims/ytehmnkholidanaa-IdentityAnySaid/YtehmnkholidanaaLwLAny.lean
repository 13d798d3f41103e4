/- A call does what its plain meaning says, and leaves the memory that was there as it was: law26_IdentityAny. -/
import Derived.Test.YtehmnkholidanaaRows
import Derived.Test.YtehmnkholidanaaFlLift
import Derived.Test.YtehmnkholidanaaPuLAny
import Derived.KernelRfl
import Derived.Test.YtehmnkholidanaaLwB
namespace Go.Proofs.Ytehmnkholidanaa
open Go Go.RowKit Go.Fl
set_option maxHeartbeats 2000000 in
theorem w_law26_IdentityAny {σ : Hv} {w : World} (l_p : (List Lk.L3)) (a_p : ByteArray) (b_p : ByteArray) (time_p : Int) (v1 : Value) {K : Bool → Prop} (hV : View σ w) (hr1 : RSl 3 (REnc encLk) σ v1 l_p) (hP : P_law26_IdentityAny l_p a_p b_p time_p K) :
    Calls Try.prog 10 #[v1, (.string a_p), (.string b_p), (.int .i64 time_p)] w (fun e w1 => ∃ (r1 : Bool), e = .returned (.bool (r1)) ∧ Grow [] σ w σ w1 ∧ K r1) := by
  unfold P_law26_IdentityAny at hP
  obtain ⟨a1, cap1, rfl⟩ := hr1.shape
  refine enter Try.func10 rfl rfl rfl ?_
  have hS := St.start hV
  refine seq_reg ?_
  refine o_assign (v := (.bool false)) rfl ?_
  refine wpList_nil ?_
  refine then_n ?_
  refine wp_seq ?_
  refine seq_reg ?_
  obtain ⟨Y1, hK1, hc1⟩ := hP
  refine o_call (args := []) rfl Try.call11 (Calls.mono (w_law26_awake hS.view hc1) ?_)
  rintro _ w1 ⟨r1_, rfl, hg1, hY1⟩
  refine ⟨_, rfl, ?_⟩
  have hS1 := hS.grow hg1
  replace hP := hK1 r1_ hY1
  refine o_not (r := (!r1_)) rfl rfl ?_
  refine wpList_nil ?_
  refine then_n ?_
  refine if_nb rfl (fun ht1 => ?_) (fun ht1 => ?_)
  · replace hP := hP.2 (by simp [ht1])
    refine seq_reg ?_
    refine o_assign (v := (.bool false)) rfl ?_
    refine wpList_nil ?_
    refine then_n ?_
    refine wp_ret ?_
    refine then_r ?_
    refine ret1 rfl (show ev _ _ _ = (.bool false) from rfl) ?_
    exact ⟨false, rfl, hS1.done.forget, hP⟩
  · replace hP := hP.1 ht1
    refine wp_skip ?_
    refine then_n ?_
    refine wp_seq ?_
    refine seq_reg ?_
    refine o_move (v := (.slice a1 l_p.length cap1)) rfl ?_
    refine o_len_slice rfl Try.underlying24 ?_
    have hlen1 := RSl.len63 hr1
    replace hP := hP hlen1
    refine o_gtr (r := (decide ((40 : Int) < ((l_p.length : Nat) : Int)))) rfl rfl rfl ?_
    refine wpList_nil ?_
    refine then_n ?_
    refine if_d ((40 : Int) < ((l_p.length : Nat) : Int)) rfl (fun ht2 => ?_) (fun ht2 => ?_)
    · replace hP := hP.1 ht2
      refine seq_reg ?_
      refine o_assign (v := (.bool true)) rfl ?_
      refine wpList_nil ?_
      refine then_n ?_
      refine wp_ret ?_
      refine then_r ?_
      refine ret1 rfl (show ev _ _ _ = (.bool true) from rfl) ?_
      exact ⟨true, rfl, hS1.done.forget, hP⟩
    · replace hP := hP.2 ht2
      refine wp_skip ?_
      refine then_n ?_
      obtain ⟨Y2, hK2, hP⟩ := hP
      refine cut (fun f z => ∃ (a_1 : ByteArray) (b_1 : ByteArray) (σ1 : Hv) (g : Fr), Y2 a_1 b_1 ∧ f = (upd (upd (upd (upd g 0 (.slice a1 l_p.length cap1)) 1 (.string a_1)) 2 (.string b_1)) 3 (.int .i64 time_p)) ∧ St ⟨w, σ, []⟩ z σ1 [] ∧ Sub σ σ1) ?_ ?_
      · refine seq_reg ?_
        refine o_move (v := (.slice a1 l_p.length cap1)) rfl ?_
        refine o_len_slice rfl Try.underlying24 ?_
        refine o_gtr (r := (decide ((0 : Int) < ((l_p.length : Nat) : Int)))) rfl rfl rfl ?_
        by_cases hb1 : (0 : Int) < ((l_p.length : Nat) : Int)
        · replace hP := hP.1 hb1
          refine o_move (v := (.bool true)) (congrArg Value.bool (decide_eq_true hb1)) ?_
          refine o_on rfl rfl ?_
          refine o_move (v := (.slice a1 l_p.length cap1)) rfl ?_
          refine o_on rfl rfl ?_
          refine o_len_slice rfl Try.underlying24 ?_
          refine o_on rfl rfl ?_
          refine o_rem (r := ((l_p.length % 2 : Nat) : Int)) rfl rfl (by omega) (Int.ofNat_tmod _ _).symm ?_
          refine o_on rfl rfl ?_
          refine o_eql (r := (decide (((l_p.length % 2 : Nat) : Int) = (0 : Int)))) rfl rfl rfl ?_
          refine o_pick_t (v := (.bool (decide (((l_p.length % 2 : Nat) : Int) = (0 : Int))))) rfl rfl ?_
          refine wpList_nil ?_
          refine then_n ?_
          refine if_d (((l_p.length % 2 : Nat) : Int) = (0 : Int)) rfl (fun ht3 => ?_) (fun ht3 => ?_)
          · replace hP := hP.1 ht3
            refine d_reg (fun z => St ⟨w, σ, []⟩ z σ []) (by kernel_rfl) rfl rfl ?_
            have hS2 := hS1.drew
            refine d_take (i := 0) (v := (.slice a1 l_p.length cap1)) (l' := #[true, false, false, false, false, false, false, false, false, false, false, false, false]) rfl (by kernel_rfl) (by kernel_rfl) (by kernel_rfl) rfl rfl (fun _ _ _ h => h) hS2 (fun w hJ K hK => ?_) ?_
            · refine o_move (v := (.slice a1 l_p.length cap1)) rfl ?_
              exact ⟨rfl, hK⟩
            obtain ⟨x1_, hx1, hP⟩ := hP
            obtain ⟨ad1, cs1, ha1, hl1, hr2, hR1, hlt1⟩ := RSl.at hr1 hx1
            cases hR1
            refine d_take (i := 1) (v := (.pointer (some (ad1.add (0 * 3))))) (l' := #[true, true, false, false, false, false, false, false, false, false, false, false, false]) rfl (by kernel_rfl) (by kernel_rfl) (by kernel_rfl) rfl rfl (fun _ _ _ h => h) hS2 (fun w hJ K hK => ?_) ?_
            · refine o_iaddr_slice (k := 0) (a' := (ad1.add (0 * 3))) (congrArg (fun z => Value.slice z _ _) ha1) rfl rfl hlt1 Try.underlying24 Try.sizeOf28 rfl ?_
              exact ⟨rfl, hK⟩
            refine d_take (i := 2) (v := (.pointer (some (((ad1.add (0 * 3))).add 0)))) (l' := #[true, true, true, false, false, false, false, false, false, false, false, false, false]) rfl (by kernel_rfl) (by kernel_rfl) (by kernel_rfl) rfl rfl (fun _ _ _ h => h) hS2 (fun w hJ K hK => ?_) ?_
            · refine o_faddr (a' := (((ad1.add (0 * 3))).add 0)) rfl Try.underlying28 rfl Try.sizeOf9 rfl ?_
              exact ⟨rfl, hK⟩
            refine d_take (i := 3) (v := (.string x1_.1)) (l' := #[true, true, true, true, false, false, false, false, false, false, false, false, false]) rfl (by kernel_rfl) (by kernel_rfl) (by kernel_rfl) rfl rfl (fun _ _ _ h => h) hS2 (fun w hJ K hK => ?_) ?_
            · refine o_load (v := (.string x1_.1)) rfl Try.isAgg9 (hr2.cell hJ.view 0 rfl rfl) ?_
              exact ⟨rfl, hK⟩
            refine d_take (i := 4) (v := (.slice a1 l_p.length cap1)) (l' := #[true, true, true, true, true, false, false, false, false, false, false, false, false]) rfl (by kernel_rfl) (by kernel_rfl) (by kernel_rfl) rfl rfl (fun _ _ _ h => h) hS2 (fun w hJ K hK => ?_) ?_
            · refine o_move (v := (.slice a1 l_p.length cap1)) rfl ?_
              exact ⟨rfl, hK⟩
            refine d_take (i := 5) (v := (.slice a1 l_p.length cap1)) (l' := #[true, true, true, true, true, true, false, false, false, false, false, false, false]) rfl (by kernel_rfl) (by kernel_rfl) (by kernel_rfl) rfl rfl (fun _ _ _ h => h) hS2 (fun w hJ K hK => ?_) ?_
            · refine o_move (v := (.slice a1 l_p.length cap1)) rfl ?_
              exact ⟨rfl, hK⟩
            refine d_take (i := 6) (v := (.int .i64 ((l_p.length : Nat) : Int))) (l' := #[true, true, true, true, true, true, true, false, false, false, false, false, false]) rfl (by kernel_rfl) (by kernel_rfl) (by kernel_rfl) rfl rfl (fun _ _ _ h => h) hS2 (fun w hJ K hK => ?_) ?_
            · refine o_len_slice rfl Try.underlying24 ?_
              exact ⟨rfl, hK⟩
            obtain ⟨hi2, hP⟩ := hP
            refine d_take (i := 7) (v := (.int .i64 (((l_p.length : Nat) : Int) - (1 : Int)))) (l' := #[true, true, true, true, true, true, true, true, false, false, false, false, false]) rfl (by kernel_rfl) (by kernel_rfl) (by kernel_rfl) rfl rfl (fun _ _ _ h => h) hS2 (fun w hJ K hK => ?_) ?_
            · refine o_sub (r := (((l_p.length : Nat) : Int) - (1 : Int))) rfl rfl (nwi rfl hi2) ?_
              exact ⟨rfl, hK⟩
            obtain ⟨j1_, hj1, hP⟩ := hP
            obtain ⟨x2_, hx2, hP⟩ := hP
            obtain ⟨ad2, cs2, ha2, hl2, hr3, hR2, hlt2⟩ := RSl.at hr1 hx2
            cases hR2
            refine d_take (i := 8) (v := (.pointer (some (ad2.add (j1_ * 3))))) (l' := #[true, true, true, true, true, true, true, true, true, false, false, false, false]) rfl (by kernel_rfl) (by kernel_rfl) (by kernel_rfl) rfl rfl (fun _ _ _ h => h) hS2 (fun w hJ K hK => ?_) ?_
            · refine o_iaddr_slice (k := j1_) (a' := (ad2.add (j1_ * 3))) (congrArg (fun z => Value.slice z _ _) ha2) rfl hj1 hlt2 Try.underlying24 Try.sizeOf28 rfl ?_
              exact ⟨rfl, hK⟩
            refine d_take (i := 9) (v := (.pointer (some (((ad2.add (j1_ * 3))).add 1)))) (l' := #[true, true, true, true, true, true, true, true, true, true, false, false, false]) rfl (by kernel_rfl) (by kernel_rfl) (by kernel_rfl) rfl rfl (fun _ _ _ h => h) hS2 (fun w hJ K hK => ?_) ?_
            · refine o_faddr (a' := (((ad2.add (j1_ * 3))).add 1)) rfl Try.underlying28 rfl Try.sizeOf9 rfl ?_
              exact ⟨rfl, hK⟩
            refine d_take (i := 10) (v := (.string x2_.2.1)) (l' := #[true, true, true, true, true, true, true, true, true, true, true, false, false]) rfl (by kernel_rfl) (by kernel_rfl) (by kernel_rfl) rfl rfl (fun _ _ _ h => h) hS2 (fun w hJ K hK => ?_) ?_
            · refine o_load (v := (.string x2_.2.1)) rfl Try.isAgg9 (hr3.cell hJ.view 1 rfl rfl) ?_
              exact ⟨rfl, hK⟩
            refine d_take (i := 11) (v := (.string x1_.1)) (l' := #[true, true, true, true, true, true, true, true, true, true, true, true, false]) rfl (by kernel_rfl) (by kernel_rfl) (by kernel_rfl) rfl rfl (fun _ _ _ h => h) hS2 (fun w hJ K hK => ?_) ?_
            · refine o_assign (v := (.string x1_.1)) rfl ?_
              exact ⟨rfl, hK⟩
            refine d_take (i := 12) (v := (.string x2_.2.1)) (l' := #[true, true, true, true, true, true, true, true, true, true, true, true, true]) rfl (by kernel_rfl) (by kernel_rfl) (by kernel_rfl) rfl rfl (fun _ _ _ h => h) hS2 (fun w hJ K hK => ?_) ?_
            · refine o_assign (v := (.string x2_.2.1)) rfl ?_
              exact ⟨rfl, hK⟩
            refine d_done (by kernel_rfl) ?_
            refine then_n ?_
            exact ⟨_, rfl, x1_.1, x2_.2.1, σ, _, hP, (upd_in rfl (upd_in rfl (upd_in rfl (upd_in rfl rfl)))), hS2, (Sub.refl _)⟩
          · replace hP := hP.2 ht3
            refine wp_skip ?_
            refine then_n ?_
            exact ⟨_, rfl, a_p, b_p, σ, _, hP, (upd_in rfl (upd_in rfl (upd_in rfl (upd_in rfl rfl)))), hS1, (Sub.refl _)⟩
        · replace hP := hP.2 hb1
          refine o_move (v := (.bool false)) (congrArg Value.bool (decide_eq_false hb1)) ?_
          refine o_off rfl rfl ?_
          refine o_off rfl rfl ?_
          refine o_off rfl rfl ?_
          refine o_off rfl rfl ?_
          refine o_pick_f (v := (.bool false)) rfl rfl ?_
          refine wpList_nil ?_
          refine then_n ?_
          refine if_f rfl ?_
          refine wp_skip ?_
          refine then_n ?_
          exact ⟨_, rfl, a_p, b_p, σ, _, hP, (upd_in rfl (upd_in rfl (upd_in rfl (upd_in rfl rfl)))), hS1, (Sub.refl _)⟩
      · rintro f w2 ⟨a_1, b_1, σ1, g, hY2, rfl, hS3, hsub1⟩
        replace hP := hK2 a_1 b_1 hY2
        refine seq_reg ?_
        refine o_move (v := (.slice a1 l_p.length cap1)) rfl ?_
        refine o_move (v := (.string a_1)) rfl ?_
        refine o_move (v := (.string b_1)) rfl ?_
        obtain ⟨Y3, hK3, hc2⟩ := hP
        refine o_call (args := [(.slice a1 l_p.length cap1), (.string a_1), (.string b_1)]) rfl Try.call16 (Calls.mono (w_identity_Path l_p a_1 b_1 (.slice a1 l_p.length cap1) hS3.view (RSl.menc hsub1 hr1) hc2) ?_)
        rintro _ w3 ⟨r2_, r3_, v2, rfl, hg2, hl3, ho1, hY3⟩
        refine ⟨_, rfl, ?_⟩
        have hS4 := hS3.growAdd hg2 (o := vec v2 28 3 r2_.length ((r2_).flatMap encLk)) ho1
        replace hP := hK3 r2_ r3_ hY3
        refine o_move (v := (.tuple #[v2, (.bool (r3_))])) rfl ?_
        refine o_extract (v := v2) rfl rfl ?_
        refine o_extract (v := (.bool (r3_))) rfl rfl ?_
        refine o_assign (v := v2) rfl ?_
        refine o_assign (v := (.bool (r3_))) rfl ?_
        refine wpList_nil ?_
        refine then_n ?_
        refine seq_reg ?_
        refine o_move (v := (.slice a1 l_p.length cap1)) rfl ?_
        refine o_move (v := (.string a_1)) rfl ?_
        refine o_move (v := (.string b_1)) rfl ?_
        obtain ⟨Y4, hK4, hc3⟩ := hP
        refine o_call (args := [(.slice a1 l_p.length cap1), (.string a_1), (.string b_1)]) rfl Try.call26 (Calls.mono (w_ref26_Path l_p a_1 b_1 (.slice a1 l_p.length cap1) hS4.view (RSl.menc hsub1 hr1) hc3) ?_)
        rintro _ w4 ⟨r4_, r5_, v3, rfl, hg3, hl4, ho2, hY4⟩
        refine ⟨_, rfl, ?_⟩
        have hS5 := hS4.growAdd hg3 (o := vec v3 28 3 r4_.length ((r4_).flatMap encLk)) ho2
        replace hP := hK4 r4_ r5_ hY4
        refine o_move (v := (.tuple #[v3, (.bool (r5_))])) rfl ?_
        refine o_extract (v := v3) rfl rfl ?_
        refine o_extract (v := (.bool (r5_))) rfl rfl ?_
        refine o_assign (v := v3) rfl ?_
        refine o_assign (v := (.bool (r5_))) rfl ?_
        refine wpList_nil ?_
        refine then_n ?_
        refine seq_reg ?_
        refine o_move (v := (.slice a1 l_p.length cap1)) rfl ?_
        refine o_move (v := (.string a_1)) rfl ?_
        obtain ⟨Y5, hK5, hc4⟩ := hP
        refine o_call (args := [(.slice a1 l_p.length cap1), (.string a_1)]) rfl Try.call18 (Calls.mono (w_identity_Members l_p a_1 (.slice a1 l_p.length cap1) hS5.view (RSl.menc hsub1 hr1) hc4) ?_)
        rintro _ w5 ⟨r6_, v4, σ2, rfl, hg4, hr6, hY5⟩
        refine ⟨_, rfl, ?_⟩
        have hS6 := hS5.grow hg4
        replace hP := hK5 r6_ hY5
        obtain ⟨a2, cap2, rfl⟩ := hr6.shape
        refine o_move (v := (.slice a1 l_p.length cap1)) rfl ?_
        refine o_move (v := (.string a_1)) rfl ?_
        obtain ⟨Y6, hK6, hc5⟩ := hP
        refine o_call (args := [(.slice a1 l_p.length cap1), (.string a_1)]) rfl Try.call24 (Calls.mono (w_ref26_Members l_p a_1 (.slice a1 l_p.length cap1) hS6.view (RSl.menc (Sub.trans hsub1 hg4.sub) hr1) hc5) ?_)
        rintro _ w6 ⟨r7_, v5, σ3, rfl, hg5, hr7, hY6⟩
        refine ⟨_, rfl, ?_⟩
        have hS7 := hS6.grow hg5
        replace hP := hK6 r7_ hY6
        obtain ⟨a3, cap3, rfl⟩ := hr7.shape
        obtain ⟨Y7, hK7, hc6⟩ := hP
        refine o_call (args := [(.slice a2 r6_.length cap2), (.slice a3 r7_.length cap3)]) rfl Try.call19 (Calls.mono (w_ref1_Same r6_ r7_ (.slice a2 r6_.length cap2) (.slice a3 r7_.length cap3) hS7.view (RSl.menc hg5.sub hr6) hr7 hc6) ?_)
        rintro _ w7 ⟨r8_, rfl, hg6, hY7⟩
        refine ⟨_, rfl, ?_⟩
        have hS8 := hS7.grow hg6
        replace hP := hK7 r8_ hY7
        rcases Bool.eq_false_or_eq_true (r8_) with hb2 | hb2
        · replace hP := hP.1 hb2
          refine o_move (v := (.bool true)) (congrArg Value.bool hb2) ?_
          refine o_on rfl rfl ?_
          refine o_move (v := (.slice a1 l_p.length cap1)) rfl ?_
          refine o_on rfl rfl ?_
          refine o_move (v := (.string b_1)) rfl ?_
          refine o_on rfl rfl ?_
          obtain ⟨Y8, hK8, hc7⟩ := hP
          refine o_call (args := [(.slice a1 l_p.length cap1), (.string b_1)]) rfl Try.call20 (Calls.mono (w_identity_Root l_p b_1 (.slice a1 l_p.length cap1) hS8.view (RSl.menc (Sub.trans (Sub.trans hsub1 hg4.sub) hg5.sub) hr1) hc7) ?_)
          rintro _ w8 ⟨r9_, rfl, hg7, hY8⟩
          refine ⟨_, rfl, ?_⟩
          have hS9 := hS8.grow hg7
          replace hP := hK8 r9_ hY8
          refine o_on rfl rfl ?_
          refine o_move (v := (.slice a1 l_p.length cap1)) rfl ?_
          refine o_on rfl rfl ?_
          refine o_move (v := (.string b_1)) rfl ?_
          refine o_on rfl rfl ?_
          obtain ⟨Y9, hK9, hc8⟩ := hP
          refine o_call (args := [(.slice a1 l_p.length cap1), (.string b_1)]) rfl Try.call25 (Calls.mono (w_ref26_Root l_p b_1 (.slice a1 l_p.length cap1) hS9.view (RSl.menc (Sub.trans (Sub.trans hsub1 hg4.sub) hg5.sub) hr1) hc8) ?_)
          rintro _ w9 ⟨r10_, rfl, hg8, hY9⟩
          refine ⟨_, rfl, ?_⟩
          have hS10 := hS9.grow hg8
          replace hP := hK9 r10_ hY9
          refine o_on rfl rfl ?_
          refine o_eqls (r := (decide (r9_ = r10_))) rfl rfl rfl ?_
          refine o_pick_t (v := (.bool (decide (r9_ = r10_)))) rfl rfl ?_
          by_cases hb3 : r9_ = r10_
          · replace hP := hP.1 hb3
            refine o_move (v := (.bool true)) (congrArg Value.bool (decide_eq_true hb3)) ?_
            refine o_on rfl rfl ?_
            refine o_move (v := (.slice a1 l_p.length cap1)) rfl ?_
            refine o_on rfl rfl ?_
            refine o_move (v := (.string a_1)) rfl ?_
            refine o_on rfl rfl ?_
            refine o_move (v := (.string b_1)) rfl ?_
            refine o_on rfl rfl ?_
            obtain ⟨Y10, hK10, hc9⟩ := hP
            refine o_call (args := [(.slice a1 l_p.length cap1), (.string a_1), (.string b_1)]) rfl Try.call15 (Calls.mono (w_identity_Same l_p a_1 b_1 (.slice a1 l_p.length cap1) hS10.view (RSl.menc (Sub.trans (Sub.trans hsub1 hg4.sub) hg5.sub) hr1) hc9) ?_)
            rintro _ w10 ⟨r11_, rfl, hg9, hY10⟩
            refine ⟨_, rfl, ?_⟩
            have hS11 := hS10.grow hg9
            replace hP := hK10 r11_ hY10
            refine o_on rfl rfl ?_
            refine o_move (v := (.bool (r5_))) rfl ?_
            refine o_on rfl rfl ?_
            refine o_eqlb (r := ((r11_) == (r5_))) Try.underlying4 rfl rfl rfl ?_
            refine o_pick_t (v := (.bool ((r11_) == (r5_)))) rfl rfl ?_
            rcases Bool.eq_false_or_eq_true ((r11_) == (r5_)) with hb4 | hb4
            · replace hP := hP.1 hb4
              refine o_move (v := (.bool true)) (congrArg Value.bool hb4) ?_
              refine o_on rfl rfl ?_
              refine o_move (v := (.bool (r3_))) rfl ?_
              refine o_on rfl rfl ?_
              refine o_move (v := (.bool (r5_))) rfl ?_
              refine o_on rfl rfl ?_
              refine o_eqlb (r := ((r3_) == (r5_))) Try.underlying4 rfl rfl rfl ?_
              refine o_pick_t (v := (.bool ((r3_) == (r5_)))) rfl rfl ?_
              rcases Bool.eq_false_or_eq_true ((r3_) == (r5_)) with hb5 | hb5
              · replace hP := hP.1 hb5
                refine o_move (v := (.bool true)) (congrArg Value.bool hb5) ?_
                refine o_on rfl rfl ?_
                refine o_move (v := v2) rfl ?_
                refine o_on rfl rfl ?_
                refine o_move (v := v3) rfl ?_
                refine o_on rfl rfl ?_
                obtain ⟨σ4, hS12, hsub2, hr8⟩ := hS11.peek (i := 1) rfl (notin0 _) encLk_len hl3
                obtain ⟨σ5, hS13, hsub3, hr9⟩ := hS12.peek (i := 0) rfl (notin0 _) encLk_len hl4
                obtain ⟨Y11, hK11, hc10⟩ := hP
                refine o_call (args := [v2, v3]) rfl Try.call22 (Calls.mono (w_ref26_SameLinks r2_ r4_ v2 v3 hS13.view (RSl.menc hsub3 hr8) hr9 hc10) ?_)
                rintro _ w11 ⟨r12_, rfl, hg10, hY11⟩
                refine ⟨_, rfl, ?_⟩
                have hg10b := hg10.back (Sub.trans hsub2 hsub3)
                have hS14 := hS11.grow hg10b
                replace hP := hK11 r12_ hY11
                refine o_pick_t (v := (.bool (r12_))) rfl rfl ?_
                rcases Bool.eq_false_or_eq_true (r12_) with hb6 | hb6
                · replace hP := hP.1 hb6
                  refine o_move (v := (.bool true)) (congrArg Value.bool hb6) ?_
                  refine o_on rfl rfl ?_
                  refine o_move (v := (.slice a1 l_p.length cap1)) rfl ?_
                  refine o_on rfl rfl ?_
                  refine o_move (v := (.int .i64 time_p)) rfl ?_
                  refine o_on rfl rfl ?_
                  obtain ⟨Y12, hK12, hc11⟩ := hP
                  refine o_call (args := [(.slice a1 l_p.length cap1), (.int .i64 time_p)]) rfl Try.call23 (Calls.mono (w_identity_Until l_p time_p (.slice a1 l_p.length cap1) hS14.view (RSl.menc (Sub.trans (Sub.trans hsub1 hg4.sub) hg5.sub) hr1) hc11) ?_)
                  rintro _ w12 ⟨r13_, v6, σ6, rfl, hg11, hr10, hY12⟩
                  refine ⟨_, rfl, ?_⟩
                  have hS15 := hS14.grow hg11
                  replace hP := hK12 r13_ hY12
                  obtain ⟨a4, cap4, rfl⟩ := hr10.shape
                  refine o_on rfl rfl ?_
                  refine o_move (v := (.slice a1 l_p.length cap1)) rfl ?_
                  refine o_on rfl rfl ?_
                  refine o_move (v := (.int .i64 time_p)) rfl ?_
                  refine o_on rfl rfl ?_
                  obtain ⟨Y13, hK13, hc12⟩ := hP
                  refine o_call (args := [(.slice a1 l_p.length cap1), (.int .i64 time_p)]) rfl Try.call27 (Calls.mono (w_ref26_Until l_p time_p (.slice a1 l_p.length cap1) hS15.view (RSl.menc (Sub.trans (Sub.trans (Sub.trans hsub1 hg4.sub) hg5.sub) hg11.sub) hr1) hc12) ?_)
                  rintro _ w13 ⟨r14_, v7, σ7, rfl, hg12, hr11, hY13⟩
                  refine ⟨_, rfl, ?_⟩
                  have hS16 := hS15.grow hg12
                  replace hP := hK13 r14_ hY13
                  obtain ⟨a5, cap5, rfl⟩ := hr11.shape
                  refine o_on rfl rfl ?_
                  obtain ⟨Y14, hK14, hc13⟩ := hP
                  refine o_call (args := [(.slice a4 r13_.length cap4), (.slice a5 r14_.length cap5)]) rfl Try.call22 (Calls.mono (w_ref26_SameLinks r13_ r14_ (.slice a4 r13_.length cap4) (.slice a5 r14_.length cap5) hS16.view (RSl.menc hg12.sub hr10) hr11 hc13) ?_)
                  rintro _ w14 ⟨r15_, rfl, hg13, hY14⟩
                  refine ⟨_, rfl, ?_⟩
                  have hS17 := hS16.grow hg13
                  replace hP := hK14 r15_ hY14
                  refine o_pick_t (v := (.bool (r15_))) rfl rfl ?_
                  rcases Bool.eq_false_or_eq_true (r15_) with hb7 | hb7
                  · replace hP := hP.1 hb7
                    refine o_move (v := (.bool true)) (congrArg Value.bool hb7) ?_
                    refine o_on rfl rfl ?_
                    refine o_move (v := (.slice a1 l_p.length cap1)) rfl ?_
                    refine o_on rfl rfl ?_
                    obtain ⟨Y15, hK15, hc14⟩ := hP
                    refine o_call (args := [(.slice a1 l_p.length cap1)]) rfl Try.call21 (Calls.mono (w_identity_Forest l_p (.slice a1 l_p.length cap1) hS17.view (RSl.menc (Sub.trans (Sub.trans (Sub.trans (Sub.trans hsub1 hg4.sub) hg5.sub) hg11.sub) hg12.sub) hr1) hc14) ?_)
                    rintro _ w15 ⟨r16_, v8, σ8, rfl, hg14, hr12, hY15⟩
                    refine ⟨_, rfl, ?_⟩
                    have hS18 := hS17.grow hg14
                    replace hP := hK15 r16_ hY15
                    obtain ⟨a6, cap6, rfl⟩ := hr12.shape
                    refine o_on rfl rfl ?_
                    refine o_move (v := (.slice a1 l_p.length cap1)) rfl ?_
                    refine o_on rfl rfl ?_
                    obtain ⟨Y16, hK16, hc15⟩ := hP
                    refine o_call (args := [(.slice a1 l_p.length cap1)]) rfl Try.call28 (Calls.mono (w_ref26_Forest l_p (.slice a1 l_p.length cap1) hS18.view (RSl.menc (Sub.trans (Sub.trans (Sub.trans (Sub.trans (Sub.trans hsub1 hg4.sub) hg5.sub) hg11.sub) hg12.sub) hg14.sub) hr1) hc15) ?_)
                    rintro _ w16 ⟨r17_, v9, rfl, hg15, hl5, ho3, hY16⟩
                    refine ⟨_, rfl, ?_⟩
                    have hS19 := hS18.growAdd hg15 (o := vec v9 28 3 r17_.length ((r17_).flatMap encLk)) ho3
                    replace hP := hK16 r17_ hY16
                    refine o_on rfl rfl ?_
                    obtain ⟨σ9, hS20, hsub4, hr14⟩ := hS19.peek (i := 0) rfl (notin0 _) encLk_len hl5
                    obtain ⟨Y17, hK17, hc16⟩ := hP
                    refine o_call (args := [(.slice a6 r16_.length cap6), v9]) rfl Try.call22 (Calls.mono (w_ref26_SameLinks r16_ r17_ (.slice a6 r16_.length cap6) v9 hS20.view (RSl.menc hsub4 hr12) hr14 hc16) ?_)
                    rintro _ w17 ⟨r18_, rfl, hg16, hY17⟩
                    refine ⟨_, rfl, ?_⟩
                    have hg16b := hg16.back hsub4
                    have hS21 := hS19.grow hg16b
                    replace hP := hK17 r18_ hY17
                    refine o_pick_t (v := (.bool (r18_))) rfl rfl ?_
                    refine o_assign (v := (.bool (r18_))) rfl ?_
                    refine wpList_nil ?_
                    refine then_n ?_
                    refine wp_ret ?_
                    refine ret1 rfl (show ev _ _ _ = (.bool (r18_)) from rfl) ?_
                    exact ⟨(r18_), rfl, hS21.done.forget, hP⟩
                  · replace hP := hP.2 (by simp [hb7])
                    refine o_move (v := (.bool false)) (congrArg Value.bool hb7) ?_
                    refine o_off rfl rfl ?_
                    refine o_off rfl rfl ?_
                    refine o_off rfl rfl ?_
                    refine o_off rfl rfl ?_
                    refine o_off rfl rfl ?_
                    refine o_pick_f (v := (.bool false)) rfl rfl ?_
                    refine o_assign (v := (.bool false)) rfl ?_
                    refine wpList_nil ?_
                    refine then_n ?_
                    refine wp_ret ?_
                    refine ret1 rfl (show ev _ _ _ = (.bool false) from rfl) ?_
                    exact ⟨false, rfl, hS17.done.forget, hP⟩
                · replace hP := hP.2 (by simp [hb6])
                  refine o_move (v := (.bool false)) (congrArg Value.bool hb6) ?_
                  refine o_off rfl rfl ?_
                  refine o_off rfl rfl ?_
                  refine o_off rfl rfl ?_
                  refine o_off rfl rfl ?_
                  refine o_off rfl rfl ?_
                  refine o_off rfl rfl ?_
                  refine o_off rfl rfl ?_
                  refine o_pick_f (v := (.bool false)) rfl rfl ?_
                  refine o_move (v := (.bool false)) rfl ?_
                  refine o_off rfl rfl ?_
                  refine o_off rfl rfl ?_
                  refine o_off rfl rfl ?_
                  refine o_off rfl rfl ?_
                  refine o_off rfl rfl ?_
                  refine o_pick_f (v := (.bool false)) rfl rfl ?_
                  refine o_assign (v := (.bool false)) rfl ?_
                  refine wpList_nil ?_
                  refine then_n ?_
                  refine wp_ret ?_
                  refine ret1 rfl (show ev _ _ _ = (.bool false) from rfl) ?_
                  exact ⟨false, rfl, hS14.done.forget, hP⟩
              · replace hP := hP.2 (by simp [hb5])
                refine o_move (v := (.bool false)) (congrArg Value.bool hb5) ?_
                refine o_off rfl rfl ?_
                refine o_off rfl rfl ?_
                refine o_off rfl rfl ?_
                refine o_pick_f (v := (.bool false)) rfl rfl ?_
                refine o_move (v := (.bool false)) rfl ?_
                refine o_off rfl rfl ?_
                refine o_off rfl rfl ?_
                refine o_off rfl rfl ?_
                refine o_off rfl rfl ?_
                refine o_off rfl rfl ?_
                refine o_off rfl rfl ?_
                refine o_off rfl rfl ?_
                refine o_pick_f (v := (.bool false)) rfl rfl ?_
                refine o_move (v := (.bool false)) rfl ?_
                refine o_off rfl rfl ?_
                refine o_off rfl rfl ?_
                refine o_off rfl rfl ?_
                refine o_off rfl rfl ?_
                refine o_off rfl rfl ?_
                refine o_pick_f (v := (.bool false)) rfl rfl ?_
                refine o_assign (v := (.bool false)) rfl ?_
                refine wpList_nil ?_
                refine then_n ?_
                refine wp_ret ?_
                refine ret1 rfl (show ev _ _ _ = (.bool false) from rfl) ?_
                exact ⟨false, rfl, hS11.done.forget, hP⟩
            · replace hP := hP.2 (by simp [hb4])
              refine o_move (v := (.bool false)) (congrArg Value.bool hb4) ?_
              refine o_off rfl rfl ?_
              refine o_off rfl rfl ?_
              refine o_off rfl rfl ?_
              refine o_pick_f (v := (.bool false)) rfl rfl ?_
              refine o_move (v := (.bool false)) rfl ?_
              refine o_off rfl rfl ?_
              refine o_off rfl rfl ?_
              refine o_off rfl rfl ?_
              refine o_pick_f (v := (.bool false)) rfl rfl ?_
              refine o_move (v := (.bool false)) rfl ?_
              refine o_off rfl rfl ?_
              refine o_off rfl rfl ?_
              refine o_off rfl rfl ?_
              refine o_off rfl rfl ?_
              refine o_off rfl rfl ?_
              refine o_off rfl rfl ?_
              refine o_off rfl rfl ?_
              refine o_pick_f (v := (.bool false)) rfl rfl ?_
              refine o_move (v := (.bool false)) rfl ?_
              refine o_off rfl rfl ?_
              refine o_off rfl rfl ?_
              refine o_off rfl rfl ?_
              refine o_off rfl rfl ?_
              refine o_off rfl rfl ?_
              refine o_pick_f (v := (.bool false)) rfl rfl ?_
              refine o_assign (v := (.bool false)) rfl ?_
              refine wpList_nil ?_
              refine then_n ?_
              refine wp_ret ?_
              refine ret1 rfl (show ev _ _ _ = (.bool false) from rfl) ?_
              exact ⟨false, rfl, hS11.done.forget, hP⟩
          · replace hP := hP.2 hb3
            refine o_move (v := (.bool false)) (congrArg Value.bool (decide_eq_false hb3)) ?_
            refine o_off rfl rfl ?_
            refine o_off rfl rfl ?_
            refine o_off rfl rfl ?_
            refine o_off rfl rfl ?_
            refine o_off rfl rfl ?_
            refine o_off rfl rfl ?_
            refine o_pick_f (v := (.bool false)) rfl rfl ?_
            refine o_move (v := (.bool false)) rfl ?_
            refine o_off rfl rfl ?_
            refine o_off rfl rfl ?_
            refine o_off rfl rfl ?_
            refine o_pick_f (v := (.bool false)) rfl rfl ?_
            refine o_move (v := (.bool false)) rfl ?_
            refine o_off rfl rfl ?_
            refine o_off rfl rfl ?_
            refine o_off rfl rfl ?_
            refine o_pick_f (v := (.bool false)) rfl rfl ?_
            refine o_move (v := (.bool false)) rfl ?_
            refine o_off rfl rfl ?_
            refine o_off rfl rfl ?_
            refine o_off rfl rfl ?_
            refine o_off rfl rfl ?_
            refine o_off rfl rfl ?_
            refine o_off rfl rfl ?_
            refine o_off rfl rfl ?_
            refine o_pick_f (v := (.bool false)) rfl rfl ?_
            refine o_move (v := (.bool false)) rfl ?_
            refine o_off rfl rfl ?_
            refine o_off rfl rfl ?_
            refine o_off rfl rfl ?_
            refine o_off rfl rfl ?_
            refine o_off rfl rfl ?_
            refine o_pick_f (v := (.bool false)) rfl rfl ?_
            refine o_assign (v := (.bool false)) rfl ?_
            refine wpList_nil ?_
            refine then_n ?_
            refine wp_ret ?_
            refine ret1 rfl (show ev _ _ _ = (.bool false) from rfl) ?_
            exact ⟨false, rfl, hS10.done.forget, hP⟩
        · replace hP := hP.2 (by simp [hb2])
          refine o_move (v := (.bool false)) (congrArg Value.bool hb2) ?_
          refine o_off rfl rfl ?_
          refine o_off rfl rfl ?_
          refine o_off rfl rfl ?_
          refine o_off rfl rfl ?_
          refine o_off rfl rfl ?_
          refine o_off rfl rfl ?_
          refine o_off rfl rfl ?_
          refine o_pick_f (v := (.bool false)) rfl rfl ?_
          refine o_move (v := (.bool false)) rfl ?_
          refine o_off rfl rfl ?_
          refine o_off rfl rfl ?_
          refine o_off rfl rfl ?_
          refine o_off rfl rfl ?_
          refine o_off rfl rfl ?_
          refine o_off rfl rfl ?_
          refine o_pick_f (v := (.bool false)) rfl rfl ?_
          refine o_move (v := (.bool false)) rfl ?_
          refine o_off rfl rfl ?_
          refine o_off rfl rfl ?_
          refine o_off rfl rfl ?_
          refine o_pick_f (v := (.bool false)) rfl rfl ?_
          refine o_move (v := (.bool false)) rfl ?_
          refine o_off rfl rfl ?_
          refine o_off rfl rfl ?_
          refine o_off rfl rfl ?_
          refine o_pick_f (v := (.bool false)) rfl rfl ?_
          refine o_move (v := (.bool false)) rfl ?_
          refine o_off rfl rfl ?_
          refine o_off rfl rfl ?_
          refine o_off rfl rfl ?_
          refine o_off rfl rfl ?_
          refine o_off rfl rfl ?_
          refine o_off rfl rfl ?_
          refine o_off rfl rfl ?_
          refine o_pick_f (v := (.bool false)) rfl rfl ?_
          refine o_move (v := (.bool false)) rfl ?_
          refine o_off rfl rfl ?_
          refine o_off rfl rfl ?_
          refine o_off rfl rfl ?_
          refine o_off rfl rfl ?_
          refine o_off rfl rfl ?_
          refine o_pick_f (v := (.bool false)) rfl rfl ?_
          refine o_assign (v := (.bool false)) rfl ?_
          refine wpList_nil ?_
          refine then_n ?_
          refine wp_ret ?_
          refine ret1 rfl (show ev _ _ _ = (.bool false) from rfl) ?_
          exact ⟨false, rfl, hS8.done.forget, hP⟩

end Go.Proofs.Ytehmnkholidanaa
