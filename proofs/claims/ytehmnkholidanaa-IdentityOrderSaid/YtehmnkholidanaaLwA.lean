/- A call does what its plain meaning says, and leaves the memory that was there as it was: ref1_Has, ref1_Same, ref26_distance, ref26_Path, ref26_SameLinks, identity_other, identity_distances, identity_Path. -/
import Derived.Test.YtehmnkholidanaaRows
import Derived.Test.YtehmnkholidanaaFlLift
import Derived.Test.YtehmnkholidanaaPuA
import Derived.KernelRfl
namespace Go.Proofs.Ytehmnkholidanaa
open Go Go.RowKit Go.Fl
set_option maxHeartbeats 2000000 in
theorem w_ref1_Has {σ : Hv} {w : World} (l_p : (List ByteArray)) (s_p : ByteArray) (v1 : Value) {K : Bool → Prop} (hV : View σ w) (hr1 : RSl 1 (REnc encTx) σ v1 l_p) (hP : P_ref1_Has l_p s_p K) :
    Calls Try.prog 17 #[v1, (.string s_p)] w (fun e w1 => ∃ (r1 : Bool), e = .returned (.bool (r1)) ∧ Grow [] σ w σ w1 ∧ K r1) := by
  unfold P_ref1_Has at hP
  obtain ⟨a1, cap1, rfl⟩ := hr1.shape
  refine enter Try.func17 rfl rfl rfl ?_
  have hS := St.start hV
  refine seq_reg ?_
  refine o_assign (v := (.bool false)) rfl ?_
  refine wpList_nil ?_
  refine then_n ?_
  refine wp_seq ?_
  refine seq_reg ?_
  refine o_assign (v := (.int .i64 (0 : Int))) rfl ?_
  refine wpList_nil ?_
  refine then_n ?_
  refine wp_block ?_
  refine lp_loop1 (fun i_2 f z => ∃ (σ1 : Hv) (g : Fr), f = (upd (upd (upd g 0 (.slice a1 l_p.length cap1)) 1 (.string s_p)) 5 (.int .i64 ((i_2 : Nat) : Int))) ∧ St ⟨w, σ, []⟩ z σ1 [] ∧ Sub σ σ1) hP ⟨σ, _, (upd_in rfl (upd_in rfl (upd_in rfl rfl))), hS, (Sub.refl _)⟩ ?_
  clear hP
  rintro i_2 Y1 hP f w1 ⟨σ1, g, rfl, hS1, hsub1⟩
  refine wp_seq ?_
  refine seq_reg ?_
  refine o_move (v := (.int .i64 ((i_2 : Nat) : Int))) rfl ?_
  refine o_move (v := (.slice a1 l_p.length cap1)) rfl ?_
  refine o_len_slice rfl Try.underlying29 ?_
  have hlen1 := RSl.len63 hr1
  replace hP := hP hlen1
  refine o_lss (r := (decide (((i_2 : Nat) : Int) < ((l_p.length : Nat) : Int)))) rfl rfl rfl ?_
  refine wpList_nil ?_
  refine then_n ?_
  refine if_d (((i_2 : Nat) : Int) < ((l_p.length : Nat) : Int)) rfl (fun ht1 => ?_) (fun ht1 => ?_)
  · replace hP := hP.1 ht1
    refine wp_skip ?_
    refine then_n ?_
    refine wp_seq ?_
    refine wp_block ?_
    refine seq_reg ?_
    refine o_move (v := (.slice a1 l_p.length cap1)) rfl ?_
    refine o_move (v := (.int .i64 ((i_2 : Nat) : Int))) rfl ?_
    obtain ⟨x1_, hx1⟩ := getq (l := l_p) (k := i_2) (by have := ht1; omega)
    replace hP := hP x1_ hx1
    obtain ⟨ad1, cs1, ha1, hl1, hr2, hR1, hlt1⟩ := RSl.at hr1 hx1
    cases hR1
    refine o_iaddr_slice (k := i_2) (a' := (ad1.add (i_2 * 1))) (congrArg (fun z => Value.slice z _ _) ha1) rfl rfl hlt1 Try.underlying29 Try.sizeOf9 rfl ?_
    refine o_load (v := (.string x1_)) rfl Try.isAgg9 (hr2.cell (View.of hsub1 hS1.view) 0 rfl rfl) ?_
    refine o_move (v := (.string s_p)) rfl ?_
    refine o_eqls (r := (decide (x1_ = s_p))) rfl rfl rfl ?_
    refine wpList_nil ?_
    refine then_n ?_
    refine if_d (x1_ = s_p) rfl (fun ht2 => ?_) (fun ht2 => ?_)
    · replace hP := hP.1 ht2
      refine seq_reg ?_
      refine o_assign (v := (.bool true)) rfl ?_
      refine wpList_nil ?_
      refine then_n ?_
      refine wp_ret ?_
      refine blk_r ?_
      refine then_r ?_
      refine then_r ?_
      refine blk_r ?_
      refine then_r ?_
      refine ret1 rfl (show ev _ _ _ = (.bool true) from rfl) ?_
      exact ⟨true, rfl, hS1.done.forget, hP⟩
    · replace hP := hP.2 ht2
      refine wp_skip ?_
      refine blk_n ?_
      refine then_n ?_
      refine one_reg ?_
      refine o_move (v := (.int .i64 ((i_2 : Nat) : Int))) rfl ?_
      refine o_add (r := ((i_2 + 1 : Nat) : Int)) rfl rfl (nw (by omega) (by omega) (by have := hlen1; omega)) ?_
      refine o_assign (v := (.int .i64 ((i_2 + 1 : Nat) : Int))) rfl ?_
      refine wpList_nil ?_
      refine then_n ?_
      exact ⟨i_2 + 1, _, rfl, hP, σ1, _, (upd_in rfl (upd_in rfl (upd_in rfl rfl))), hS1, hsub1⟩
  · replace hP := hP.2 ht1
    refine wp_exit ?_
    refine then_e ?_
    refine then_e ?_
    refine blk_hit ?_
    refine then_n ?_
    refine seq_reg ?_
    refine o_assign (v := (.bool false)) rfl ?_
    refine wpList_nil ?_
    refine then_n ?_
    refine wp_ret ?_
    refine ret1 rfl (show ev _ _ _ = (.bool false) from rfl) ?_
    exact ⟨false, rfl, hS1.done.forget, hP⟩

set_option maxHeartbeats 2000000 in
theorem w_ref1_Same {σ : Hv} {w : World} (a_p : (List ByteArray)) (b_p : (List ByteArray)) (v1 : Value) (v2 : Value) {K : Bool → Prop} (hV : View σ w) (hr1 : RSl 1 (REnc encTx) σ v1 a_p) (hr2 : RSl 1 (REnc encTx) σ v2 b_p) (hP : P_ref1_Same a_p b_p K) :
    Calls Try.prog 19 #[v1, v2] w (fun e w1 => ∃ (r1 : Bool), e = .returned (.bool (r1)) ∧ Grow [] σ w σ w1 ∧ K r1) := by
  unfold P_ref1_Same at hP
  obtain ⟨a1, cap1, rfl⟩ := hr1.shape
  obtain ⟨a2, cap2, rfl⟩ := hr2.shape
  refine enter Try.func19 rfl rfl rfl ?_
  have hS := St.start hV
  refine seq_reg ?_
  refine o_assign (v := (.bool false)) rfl ?_
  refine wpList_nil ?_
  refine then_n ?_
  refine wp_seq ?_
  refine seq_reg ?_
  refine o_move (v := (.slice a1 a_p.length cap1)) rfl ?_
  refine o_len_slice rfl Try.underlying29 ?_
  have hlen1 := RSl.len63 hr1
  replace hP := hP hlen1
  refine o_move (v := (.slice a2 b_p.length cap2)) rfl ?_
  refine o_len_slice rfl Try.underlying29 ?_
  have hlen2 := RSl.len63 hr2
  replace hP := hP hlen2
  refine o_neq (r := (!decide (((a_p.length : Nat) : Int) = ((b_p.length : Nat) : Int)))) rfl rfl rfl ?_
  refine wpList_nil ?_
  refine then_n ?_
  refine if_nd (((a_p.length : Nat) : Int) = ((b_p.length : Nat) : Int)) rfl (fun ht1 => ?_) (fun ht1 => ?_)
  · replace hP := hP.2 ht1
    refine seq_reg ?_
    refine o_assign (v := (.bool false)) rfl ?_
    refine wpList_nil ?_
    refine then_n ?_
    refine wp_ret ?_
    refine then_r ?_
    refine ret1 rfl (show ev _ _ _ = (.bool false) from rfl) ?_
    exact ⟨false, rfl, hS.done.forget, hP⟩
  · replace hP := hP.1 ht1
    refine wp_skip ?_
    refine then_n ?_
    refine wp_seq ?_
    refine seq_reg ?_
    refine o_assign (v := (.int .i64 (0 : Int))) rfl ?_
    refine wpList_nil ?_
    refine then_n ?_
    refine wp_block ?_
    refine lp_loop1 (fun i_2 f z => ∃ (σ1 : Hv) (g : Fr), f = (upd (upd (upd g 0 (.slice a1 a_p.length cap1)) 1 (.slice a2 b_p.length cap2)) 5 (.int .i64 ((i_2 : Nat) : Int))) ∧ St ⟨w, σ, []⟩ z σ1 [] ∧ Sub σ σ1) hP ⟨σ, _, (upd_in rfl (upd_in rfl (upd_in rfl rfl))), hS, (Sub.refl _)⟩ ?_
    clear hP
    rintro i_2 Y1 hP f w1 ⟨σ1, g, rfl, hS1, hsub1⟩
    refine wp_seq ?_
    refine seq_reg ?_
    refine o_move (v := (.int .i64 ((i_2 : Nat) : Int))) rfl ?_
    refine o_move (v := (.slice a1 a_p.length cap1)) rfl ?_
    refine o_len_slice rfl Try.underlying29 ?_
    refine o_lss (r := (decide (((i_2 : Nat) : Int) < ((a_p.length : Nat) : Int)))) rfl rfl rfl ?_
    refine wpList_nil ?_
    refine then_n ?_
    refine if_d (((i_2 : Nat) : Int) < ((a_p.length : Nat) : Int)) rfl (fun ht2 => ?_) (fun ht2 => ?_)
    · replace hP := hP.1 ht2
      refine wp_skip ?_
      refine then_n ?_
      refine wp_seq ?_
      refine wp_block ?_
      refine wp_seq ?_
      refine d_reg (fun z => St ⟨w, σ, []⟩ z σ1 []) (by kernel_rfl) rfl rfl ?_
      have hS2 := hS1.drew
      refine d_take (i := 0) (v := (.slice a1 a_p.length cap1)) (l' := #[true, false, false, false, false, false, false, false, false]) rfl (by kernel_rfl) (by kernel_rfl) (by kernel_rfl) rfl rfl (fun _ _ _ h => h) hS2 (fun w hJ K hK => ?_) ?_
      · refine o_move (v := (.slice a1 a_p.length cap1)) rfl ?_
        exact ⟨rfl, hK⟩
      refine d_take (i := 1) (v := (.int .i64 ((i_2 : Nat) : Int))) (l' := #[true, true, false, false, false, false, false, false, false]) rfl (by kernel_rfl) (by kernel_rfl) (by kernel_rfl) rfl rfl (fun _ _ _ h => h) hS2 (fun w hJ K hK => ?_) ?_
      · refine o_move (v := (.int .i64 ((i_2 : Nat) : Int))) rfl ?_
        exact ⟨rfl, hK⟩
      obtain ⟨x1_, hx1⟩ := getq (l := a_p) (k := i_2) (by have := ht2; omega)
      replace hP := hP x1_ hx1
      obtain ⟨ad1, cs1, ha1, hl1, hr3, hR1, hlt1⟩ := RSl.at hr1 hx1
      cases hR1
      refine d_take (i := 2) (v := (.pointer (some (ad1.add (i_2 * 1))))) (l' := #[true, true, true, false, false, false, false, false, false]) rfl (by kernel_rfl) (by kernel_rfl) (by kernel_rfl) rfl rfl (fun _ _ _ h => h) hS2 (fun w hJ K hK => ?_) ?_
      · refine o_iaddr_slice (k := i_2) (a' := (ad1.add (i_2 * 1))) (congrArg (fun z => Value.slice z _ _) ha1) rfl rfl hlt1 Try.underlying29 Try.sizeOf9 rfl ?_
        exact ⟨rfl, hK⟩
      refine d_take (i := 3) (v := (.string x1_)) (l' := #[true, true, true, true, false, false, false, false, false]) rfl (by kernel_rfl) (by kernel_rfl) (by kernel_rfl) rfl rfl (fun _ _ _ h => h) hS2 (fun w hJ K hK => ?_) ?_
      · refine o_load (v := (.string x1_)) rfl Try.isAgg9 (hr3.cell (View.of hsub1 hJ.view) 0 rfl rfl) ?_
        exact ⟨rfl, hK⟩
      refine d_take (i := 4) (v := (.slice a2 b_p.length cap2)) (l' := #[true, true, true, true, true, false, false, false, false]) rfl (by kernel_rfl) (by kernel_rfl) (by kernel_rfl) rfl rfl (fun _ _ _ h => h) hS2 (fun w hJ K hK => ?_) ?_
      · refine o_move (v := (.slice a2 b_p.length cap2)) rfl ?_
        exact ⟨rfl, hK⟩
      refine d_take (i := 5) (v := (.int .i64 ((i_2 : Nat) : Int))) (l' := #[true, true, true, true, true, true, false, false, false]) rfl (by kernel_rfl) (by kernel_rfl) (by kernel_rfl) rfl rfl (fun _ _ _ h => h) hS2 (fun w hJ K hK => ?_) ?_
      · refine o_move (v := (.int .i64 ((i_2 : Nat) : Int))) rfl ?_
        exact ⟨rfl, hK⟩
      obtain ⟨x2_, hx2, hP⟩ := hP
      obtain ⟨ad2, cs2, ha2, hl2, hr4, hR2, hlt2⟩ := RSl.at hr2 hx2
      cases hR2
      refine d_take (i := 6) (v := (.pointer (some (ad2.add (i_2 * 1))))) (l' := #[true, true, true, true, true, true, true, false, false]) rfl (by kernel_rfl) (by kernel_rfl) (by kernel_rfl) rfl rfl (fun _ _ _ h => h) hS2 (fun w hJ K hK => ?_) ?_
      · refine o_iaddr_slice (k := i_2) (a' := (ad2.add (i_2 * 1))) (congrArg (fun z => Value.slice z _ _) ha2) rfl rfl hlt2 Try.underlying29 Try.sizeOf9 rfl ?_
        exact ⟨rfl, hK⟩
      refine d_take (i := 7) (v := (.string x2_)) (l' := #[true, true, true, true, true, true, true, true, false]) rfl (by kernel_rfl) (by kernel_rfl) (by kernel_rfl) rfl rfl (fun _ _ _ h => h) hS2 (fun w hJ K hK => ?_) ?_
      · refine o_load (v := (.string x2_)) rfl Try.isAgg9 (hr4.cell (View.of hsub1 hJ.view) 0 rfl rfl) ?_
        exact ⟨rfl, hK⟩
      refine d_take (i := 8) (v := (.bool (!decide (x1_ = x2_)))) (l' := #[true, true, true, true, true, true, true, true, true]) rfl (by kernel_rfl) (by kernel_rfl) (by kernel_rfl) rfl rfl (fun _ _ _ h => h) hS2 (fun w hJ K hK => ?_) ?_
      · refine o_neqs (r := (!decide (x1_ = x2_))) rfl rfl rfl ?_
        exact ⟨rfl, hK⟩
      refine d_done (by kernel_rfl) ?_
      refine then_n ?_
      refine if_nd (x1_ = x2_) rfl (fun ht3 => ?_) (fun ht3 => ?_)
      · replace hP := hP.2 ht3
        refine seq_reg ?_
        refine o_assign (v := (.bool false)) rfl ?_
        refine wpList_nil ?_
        refine then_n ?_
        refine wp_ret ?_
        refine blk_r ?_
        refine then_r ?_
        refine then_r ?_
        refine blk_r ?_
        refine then_r ?_
        refine ret1 rfl (show ev _ _ _ = (.bool false) from rfl) ?_
        exact ⟨false, rfl, hS2.done.forget, hP⟩
      · replace hP := hP.1 ht3
        refine wp_skip ?_
        refine blk_n ?_
        refine then_n ?_
        refine one_reg ?_
        refine o_move (v := (.int .i64 ((i_2 : Nat) : Int))) rfl ?_
        refine o_add (r := ((i_2 + 1 : Nat) : Int)) rfl rfl (nw (by omega) (by omega) (by have := hlen1; omega)) ?_
        refine o_assign (v := (.int .i64 ((i_2 + 1 : Nat) : Int))) rfl ?_
        refine wpList_nil ?_
        refine then_n ?_
        exact ⟨i_2 + 1, _, rfl, hP, σ1, _, (upd_in rfl (upd_in rfl (upd_in rfl rfl))), hS2, hsub1⟩
    · replace hP := hP.2 ht2
      refine wp_exit ?_
      refine then_e ?_
      refine then_e ?_
      refine blk_hit ?_
      refine then_n ?_
      refine seq_reg ?_
      refine o_assign (v := (.bool true)) rfl ?_
      refine wpList_nil ?_
      refine then_n ?_
      refine wp_ret ?_
      refine ret1 rfl (show ev _ _ _ = (.bool true) from rfl) ?_
      exact ⟨true, rfl, hS1.done.forget, hP⟩

set_option maxHeartbeats 2000000 in
theorem w_ref26_distance {σ : Hv} {w : World} (l_p : (List Lk.L3)) (a_p : ByteArray) (b_p : ByteArray) (v1 : Value) {K : Int → Prop} (hV : View σ w) (hr1 : RSl 3 (REnc encLk) σ v1 l_p) (hP : P_ref26_distance l_p a_p b_p K) :
    Calls Try.prog 39 #[v1, (.string a_p), (.string b_p)] w (fun e w1 => ∃ (r1 : Int), e = .returned (.int .i64 r1) ∧ Grow [] σ w σ w1 ∧ K r1) := by
  unfold P_ref26_distance at hP
  obtain ⟨a1, cap1, rfl⟩ := hr1.shape
  refine enter Try.func39 rfl rfl rfl ?_
  have hS := St.start hV
  refine seq_reg ?_
  refine o_assign (v := (.int .i64 (0 : Int))) rfl ?_
  refine wpList_nil ?_
  refine then_n ?_
  refine seq_reg ?_
  refine o_move (v := (.string a_p)) rfl ?_
  refine o_bslice (cs := [(.string a_p)]) (e := 9) hS (fun _ => by kernel_rfl) ?_
  intro b1 w1 hS1
  refine o_assign (v := (.slice (some ⟨b1, 0, none⟩) 1 1)) rfl ?_
  refine wpList_nil ?_
  refine then_n ?_
  refine seq_reg ?_
  refine o_assign (v := (.int .i64 (0 : Int))) rfl ?_
  refine wpList_nil ?_
  refine then_n ?_
  refine wp_block ?_
  have hS2 := hS1.asVec (i := 0) (ms' := [vec (.slice (some ⟨b1, 0, none⟩) 1 1) 9 1 1 (([a_p]).flatMap encTx)]) (size := 1) rfl rfl (by unfold maxLen; omega) rfl
  refine lp_loop2 (fun reached_2 n_2 f z => ∃ (v3 : Value) (σ1 : Hv) (g : Fr), f = (upd (upd (upd (upd g 0 (.slice a1 l_p.length cap1)) 2 (.string b_p)) 7 v3) 8 (.int .i64 ((n_2 : Nat) : Int))) ∧ St ⟨w, σ, []⟩ z σ1 [vec v3 9 1 reached_2.length ((reached_2).flatMap encTx)] ∧ Sub σ σ1 ∧ v3.oneCell' = true ∧ Sml reached_2.length) hP ⟨(.slice (some ⟨b1, 0, none⟩) 1 1), σ, _, (upd_in rfl (upd_in rfl (upd_in rfl (upd_in rfl rfl)))), hS2, (Sub.refl _), rfl, (by simp [Sml])⟩ ?_
  clear hP
  rintro reached_2 n_2 Y1 hP f w2 ⟨v3, σ1, g, rfl, hS3, hsub1, ho2, hl2⟩
  refine wp_seq ?_
  refine wp_block ?_
  refine wp_seq ?_
  refine seq_reg ?_
  refine o_move (v := v3) rfl ?_
  refine o_move (v := (.string b_p)) rfl ?_
  obtain ⟨σ2, hS4, hsub2, hr2⟩ := hS3.peek (i := 0) rfl (notin0 _) encTx_len hl2
  obtain ⟨Y2, hK1, hc1⟩ := hP
  refine o_call (args := [v3, (.string b_p)]) rfl Try.call17 (Calls.mono (w_ref1_Has reached_2 b_p v3 hS4.view hr2 hc1) ?_)
  rintro _ w3 ⟨r1_, rfl, hg1, hY1⟩
  refine ⟨_, rfl, ?_⟩
  have hg1b := hg1.back hsub2
  have hS5 := hS3.grow hg1b
  replace hP := hK1 r1_ hY1
  refine wpList_nil ?_
  refine then_n ?_
  refine if_b rfl (fun ht1 => ?_) (fun ht1 => ?_)
  · replace hP := hP.1 ht1
    refine seq_reg ?_
    refine o_move (v := (.int .i64 ((n_2 : Nat) : Int))) rfl ?_
    refine o_assign (v := (.int .i64 ((n_2 : Nat) : Int))) rfl ?_
    refine wpList_nil ?_
    refine then_n ?_
    refine wp_ret ?_
    refine then_r ?_
    refine blk_r ?_
    refine then_r ?_
    refine then_r ?_
    refine blk_r ?_
    refine ret1 rfl (show ev _ _ _ = (.int .i64 ((n_2 : Nat) : Int)) from rfl) ?_
    exact ⟨((n_2 : Nat) : Int), rfl, hS5.done.forget, hP⟩
  · replace hP := hP.2 (by simp [ht1])
    refine wp_skip ?_
    refine then_n ?_
    refine seq_reg ?_
    refine o_bslice (cs := []) (e := 9) hS5 (fun _ => by kernel_rfl) ?_
    intro b2 w4 hS6
    refine o_move (v := v3) rfl ?_
    have hS7 := hS6.asVec (i := 0) (ms' := [vec (.slice (some ⟨b2, 0, none⟩) 0 0) 9 1 0 [], vec v3 9 1 reached_2.length ((reached_2).flatMap encTx)]) (size := 1) rfl rfl (by unfold maxLen; omega) rfl
    obtain ⟨hsm1, hP⟩ := hP
    refine o_appV (enc := encTx) (l := reached_2) (qy := 1) (Ms := fun v4 => [vec v4 9 1 reached_2.length ((reached_2).flatMap encTx), vec v3 9 1 reached_2.length ((reached_2).flatMap encTx)]) (k' := reached_2.length) (xs' := (reached_2).flatMap encTx) Try.underlying29 Try.type9 rfl rfl (bytes := 16) rfl rfl (Nat.succ_pos _) hS7 rfl (q := 0) rfl rfl rfl encTx_len encTx_one hsm1 (by omega) (by first | rfl | simp) (List.nil_append _) (fun _ => rfl) ?_
    intro v4 w5 ho3 hS8
    refine o_assign (v := v4) rfl ?_
    refine wpList_nil ?_
    refine then_n ?_
    refine wp_seq ?_
    refine seq_reg ?_
    refine o_assign (v := (.int .i64 (0 : Int))) rfl ?_
    refine wpList_nil ?_
    refine then_n ?_
    refine wp_block ?_
    refine lp_loop2 (fun more_2 i_2 f z => ∃ (v6 : Value) (σ3 : Hv) (g : Fr), f = (upd (upd (upd (upd (upd (upd g 0 (.slice a1 l_p.length cap1)) 2 (.string b_p)) 7 v3) 8 (.int .i64 ((n_2 : Nat) : Int))) 9 v6) 10 (.int .i64 ((i_2 : Nat) : Int))) ∧ St ⟨w, σ, []⟩ z σ3 [vec v6 9 1 more_2.length ((more_2).flatMap encTx), vec v3 9 1 reached_2.length ((reached_2).flatMap encTx)] ∧ Sub σ1 σ3 ∧ v6.oneCell' = true ∧ Sml more_2.length) hP ⟨v4, σ1, _, (upd_in rfl (upd_in rfl (upd_in rfl (upd_in rfl (upd_in rfl (upd_in rfl rfl)))))), hS8, (Sub.refl _), ho3, hsm1⟩ ?_
    clear hP
    rintro more_2 i_2 Y3 hP f w6 ⟨v6, σ3, g, rfl, hS9, hsub3, ho5, hl4⟩
    refine wp_seq ?_
    refine seq_reg ?_
    refine o_move (v := (.int .i64 ((i_2 : Nat) : Int))) rfl ?_
    refine o_move (v := (.slice a1 l_p.length cap1)) rfl ?_
    refine o_len_slice rfl Try.underlying24 ?_
    have hlen1 := RSl.len63 hr1
    replace hP := hP hlen1
    refine o_lss (r := (decide (((i_2 : Nat) : Int) < ((l_p.length : Nat) : Int)))) rfl rfl rfl ?_
    refine wpList_nil ?_
    refine then_n ?_
    refine if_d (((i_2 : Nat) : Int) < ((l_p.length : Nat) : Int)) rfl (fun ht2 => ?_) (fun ht2 => ?_)
    · replace hP := hP.1 ht2
      refine wp_skip ?_
      refine then_n ?_
      refine wp_seq ?_
      refine wp_block ?_
      obtain ⟨Y4, hK2, hP⟩ := hP
      refine cut (fun f z => ∃ (more_3 : (List ByteArray)) (v7 : Value) (σ4 : Hv) (g : Fr), Y4 more_3 ∧ f = (upd (upd (upd (upd (upd (upd g 0 (.slice a1 l_p.length cap1)) 2 (.string b_p)) 7 v3) 8 (.int .i64 ((n_2 : Nat) : Int))) 9 v7) 10 (.int .i64 ((i_2 : Nat) : Int))) ∧ St ⟨w, σ, []⟩ z σ4 [vec v7 9 1 more_3.length ((more_3).flatMap encTx), vec v3 9 1 reached_2.length ((reached_2).flatMap encTx)] ∧ Sub σ3 σ4 ∧ v7.oneCell' = true ∧ Sml more_3.length) ?_ ?_
      · refine seq_reg ?_
        refine o_move (v := v3) rfl ?_
        refine o_move (v := (.slice a1 l_p.length cap1)) rfl ?_
        refine o_move (v := (.int .i64 ((i_2 : Nat) : Int))) rfl ?_
        obtain ⟨x1_, hx1⟩ := getq (l := l_p) (k := i_2) (by have := ht2; omega)
        replace hP := hP x1_ hx1
        obtain ⟨ad1, cs1, ha1, hl6, hr3, hR1, hlt1⟩ := RSl.at hr1 hx1
        cases hR1
        refine o_iaddr_slice (k := i_2) (a' := (ad1.add (i_2 * 3))) (congrArg (fun z => Value.slice z _ _) ha1) rfl rfl hlt1 Try.underlying24 Try.sizeOf28 rfl ?_
        refine o_faddr (a' := (((ad1.add (i_2 * 3))).add 0)) rfl Try.underlying28 rfl Try.sizeOf9 rfl ?_
        refine o_load (v := (.string x1_.1)) rfl Try.isAgg9 (hr3.cell (View.of (Sub.trans hsub1 hsub3) hS9.view) 0 rfl rfl) ?_
        obtain ⟨σ5, hS10, hsub5, hr4⟩ := hS9.peek (i := 1) rfl (notin0 _) encTx_len hl2
        obtain ⟨Y5, hK3, hc2⟩ := hP
        refine o_call (args := [v3, (.string x1_.1)]) rfl Try.call17 (Calls.mono (w_ref1_Has reached_2 x1_.1 v3 hS10.view hr4 hc2) ?_)
        rintro _ w7 ⟨r2_, rfl, hg2, hY2⟩
        refine ⟨_, rfl, ?_⟩
        have hg2b := hg2.back hsub5
        have hS11 := hS9.grow hg2b
        replace hP := hK3 r2_ hY2
        rcases Bool.eq_false_or_eq_true (r2_) with hb1 | hb1
        · replace hP := hP.1 hb1
          refine o_move (v := (.bool true)) (congrArg Value.bool hb1) ?_
          refine o_on rfl rfl ?_
          refine o_move (v := v6) rfl ?_
          refine o_on rfl rfl ?_
          refine o_move (v := (.slice a1 l_p.length cap1)) rfl ?_
          refine o_on rfl rfl ?_
          refine o_move (v := (.int .i64 ((i_2 : Nat) : Int))) rfl ?_
          refine o_on rfl rfl ?_
          refine o_iaddr_slice (k := i_2) (a' := (ad1.add (i_2 * 3))) (congrArg (fun z => Value.slice z _ _) ha1) rfl rfl hlt1 Try.underlying24 Try.sizeOf28 rfl ?_
          refine o_on rfl rfl ?_
          refine o_faddr (a' := (((ad1.add (i_2 * 3))).add 1)) rfl Try.underlying28 rfl Try.sizeOf9 rfl ?_
          refine o_on rfl rfl ?_
          refine o_load (v := (.string x1_.2.1)) rfl Try.isAgg9 (hr3.cell (View.of (Sub.trans hsub1 hsub3) hS11.view) 1 rfl rfl) ?_
          refine o_on rfl rfl ?_
          obtain ⟨σ6, hS12, hsub6, hr5⟩ := hS11.peek (i := 0) rfl (notin0 _) encTx_len hl4
          obtain ⟨Y6, hK4, hc3⟩ := hP
          refine o_call (args := [v6, (.string x1_.2.1)]) rfl Try.call17 (Calls.mono (w_ref1_Has more_2 x1_.2.1 v6 hS12.view hr5 hc3) ?_)
          rintro _ w8 ⟨r3_, rfl, hg3, hY3⟩
          refine ⟨_, rfl, ?_⟩
          have hg3b := hg3.back hsub6
          have hS13 := hS11.grow hg3b
          replace hP := hK4 r3_ hY3
          refine o_on rfl rfl ?_
          refine o_not (r := (!r3_)) rfl rfl ?_
          refine o_pick_t (v := (.bool (!r3_))) rfl rfl ?_
          refine wpList_nil ?_
          refine then_n ?_
          refine if_nb rfl (fun ht3 => ?_) (fun ht3 => ?_)
          · replace hP := hP.2 (by simp [ht3])
            refine one_reg ?_
            refine o_move (v := v6) rfl ?_
            refine o_move (v := (.slice a1 l_p.length cap1)) rfl ?_
            refine o_move (v := (.int .i64 ((i_2 : Nat) : Int))) rfl ?_
            refine o_iaddr_slice (k := i_2) (a' := (ad1.add (i_2 * 3))) (congrArg (fun z => Value.slice z _ _) ha1) rfl rfl hlt1 Try.underlying24 Try.sizeOf28 rfl ?_
            refine o_faddr (a' := (((ad1.add (i_2 * 3))).add 1)) rfl Try.underlying28 rfl Try.sizeOf9 rfl ?_
            refine o_load (v := (.string x1_.2.1)) rfl Try.isAgg9 (hr3.cell (View.of (Sub.trans hsub1 hsub3) hS13.view) 1 rfl rfl) ?_
            refine o_bslice (cs := [(.string x1_.2.1)]) (e := 9) hS13 (fun _ => by kernel_rfl) ?_
            intro b3 w9 hS14
            obtain ⟨hsm2, hP⟩ := hP
            refine o_app (Ms := fun v8 => [blk b3 9 [(.string x1_.2.1)], vec v8 9 1 ((more_2 ++ [x1_.2.1]).length) ((more_2 ++ [x1_.2.1]).flatMap encTx), vec v3 9 1 reached_2.length ((reached_2).flatMap encTx)]) (k' := (more_2 ++ [x1_.2.1]).length) (xs' := (more_2 ++ [x1_.2.1]).flatMap encTx) Try.underlying29 Try.type9 rfl rfl (bytes := 16) rfl rfl (Nat.succ_pos _) hS14 rfl (q := 1) rfl rfl rfl (blk_row (hS14.get (i := 0) rfl)) (ones rfl) hsm2 (by omega) (by first | rfl | simp) (by simp [encTx]) (fun _ => rfl) ?_
            intro v8 w10 ho7 hS15
            have hS16 := hS15.drop 0 (ms' := [vec v8 9 1 ((more_2 ++ [x1_.2.1]).length) ((more_2 ++ [x1_.2.1]).flatMap encTx), vec v3 9 1 reached_2.length ((reached_2).flatMap encTx)]) rfl
            refine o_assign (v := v8) rfl ?_
            refine wpList_nil ?_
            refine then_n ?_
            exact ⟨_, rfl, more_2 ++ [x1_.2.1], v8, σ3, _, hP, (upd_in rfl (upd_in rfl (upd_in rfl (upd_in rfl (upd_in rfl (upd_in rfl rfl)))))), hS16, (Sub.refl _), ho7, hsm2⟩
          · replace hP := hP.1 ht3
            refine wp_skip ?_
            refine then_n ?_
            exact ⟨_, rfl, more_2, v6, σ3, _, hP, (upd_in rfl (upd_in rfl (upd_in rfl (upd_in rfl (upd_in rfl (upd_in rfl rfl)))))), hS13, (Sub.refl _), ho5, hl4⟩
        · replace hP := hP.2 (by simp [hb1])
          refine o_move (v := (.bool false)) (congrArg Value.bool hb1) ?_
          refine o_off rfl rfl ?_
          refine o_off rfl rfl ?_
          refine o_off rfl rfl ?_
          refine o_off rfl rfl ?_
          refine o_off rfl rfl ?_
          refine o_off rfl rfl ?_
          refine o_off rfl rfl ?_
          refine o_off rfl rfl ?_
          refine o_pick_f (v := (.bool false)) rfl rfl ?_
          refine wpList_nil ?_
          refine then_n ?_
          refine if_f rfl ?_
          refine wp_skip ?_
          refine then_n ?_
          exact ⟨_, rfl, more_2, v6, σ3, _, hP, (upd_in rfl (upd_in rfl (upd_in rfl (upd_in rfl (upd_in rfl (upd_in rfl rfl)))))), hS11, (Sub.refl _), ho5, hl4⟩
      · rintro f w11 ⟨more_3, v7, σ4, g, hY4, rfl, hS17, hsub4, ho6, hl5⟩
        replace hP := hK2 more_3 hY4
        refine seq_reg ?_
        refine o_move (v := v3) rfl ?_
        refine o_move (v := (.slice a1 l_p.length cap1)) rfl ?_
        refine o_move (v := (.int .i64 ((i_2 : Nat) : Int))) rfl ?_
        obtain ⟨x2_, hx2⟩ := getq (l := l_p) (k := i_2) (by have := ht2; omega)
        replace hP := hP x2_ hx2
        obtain ⟨ad2, cs2, ha2, hl7, hr6, hR2, hlt2⟩ := RSl.at hr1 hx2
        cases hR2
        refine o_iaddr_slice (k := i_2) (a' := (ad2.add (i_2 * 3))) (congrArg (fun z => Value.slice z _ _) ha2) rfl rfl hlt2 Try.underlying24 Try.sizeOf28 rfl ?_
        refine o_faddr (a' := (((ad2.add (i_2 * 3))).add 1)) rfl Try.underlying28 rfl Try.sizeOf9 rfl ?_
        refine o_load (v := (.string x2_.2.1)) rfl Try.isAgg9 (hr6.cell (View.of (Sub.trans (Sub.trans hsub1 hsub3) hsub4) hS17.view) 1 rfl rfl) ?_
        obtain ⟨σ7, hS18, hsub7, hr7⟩ := hS17.peek (i := 1) rfl (notin0 _) encTx_len hl2
        obtain ⟨Y7, hK5, hc4⟩ := hP
        refine o_call (args := [v3, (.string x2_.2.1)]) rfl Try.call17 (Calls.mono (w_ref1_Has reached_2 x2_.2.1 v3 hS18.view hr7 hc4) ?_)
        rintro _ w12 ⟨r4_, rfl, hg4, hY5⟩
        refine ⟨_, rfl, ?_⟩
        have hg4b := hg4.back hsub7
        have hS19 := hS17.grow hg4b
        replace hP := hK5 r4_ hY5
        rcases Bool.eq_false_or_eq_true (r4_) with hb2 | hb2
        · replace hP := hP.1 hb2
          refine o_move (v := (.bool true)) (congrArg Value.bool hb2) ?_
          refine o_on rfl rfl ?_
          refine o_move (v := v7) rfl ?_
          refine o_on rfl rfl ?_
          refine o_move (v := (.slice a1 l_p.length cap1)) rfl ?_
          refine o_on rfl rfl ?_
          refine o_move (v := (.int .i64 ((i_2 : Nat) : Int))) rfl ?_
          refine o_on rfl rfl ?_
          refine o_iaddr_slice (k := i_2) (a' := (ad2.add (i_2 * 3))) (congrArg (fun z => Value.slice z _ _) ha2) rfl rfl hlt2 Try.underlying24 Try.sizeOf28 rfl ?_
          refine o_on rfl rfl ?_
          refine o_faddr (a' := (((ad2.add (i_2 * 3))).add 0)) rfl Try.underlying28 rfl Try.sizeOf9 rfl ?_
          refine o_on rfl rfl ?_
          refine o_load (v := (.string x2_.1)) rfl Try.isAgg9 (hr6.cell (View.of (Sub.trans (Sub.trans hsub1 hsub3) hsub4) hS19.view) 0 rfl rfl) ?_
          refine o_on rfl rfl ?_
          obtain ⟨σ8, hS20, hsub8, hr8⟩ := hS19.peek (i := 0) rfl (notin0 _) encTx_len hl5
          obtain ⟨Y8, hK6, hc5⟩ := hP
          refine o_call (args := [v7, (.string x2_.1)]) rfl Try.call17 (Calls.mono (w_ref1_Has more_3 x2_.1 v7 hS20.view hr8 hc5) ?_)
          rintro _ w13 ⟨r5_, rfl, hg5, hY6⟩
          refine ⟨_, rfl, ?_⟩
          have hg5b := hg5.back hsub8
          have hS21 := hS19.grow hg5b
          replace hP := hK6 r5_ hY6
          refine o_on rfl rfl ?_
          refine o_not (r := (!r5_)) rfl rfl ?_
          refine o_pick_t (v := (.bool (!r5_))) rfl rfl ?_
          refine wpList_nil ?_
          refine then_n ?_
          refine if_nb rfl (fun ht4 => ?_) (fun ht4 => ?_)
          · replace hP := hP.2 (by simp [ht4])
            refine one_reg ?_
            refine o_move (v := v7) rfl ?_
            refine o_move (v := (.slice a1 l_p.length cap1)) rfl ?_
            refine o_move (v := (.int .i64 ((i_2 : Nat) : Int))) rfl ?_
            refine o_iaddr_slice (k := i_2) (a' := (ad2.add (i_2 * 3))) (congrArg (fun z => Value.slice z _ _) ha2) rfl rfl hlt2 Try.underlying24 Try.sizeOf28 rfl ?_
            refine o_faddr (a' := (((ad2.add (i_2 * 3))).add 0)) rfl Try.underlying28 rfl Try.sizeOf9 rfl ?_
            refine o_load (v := (.string x2_.1)) rfl Try.isAgg9 (hr6.cell (View.of (Sub.trans (Sub.trans hsub1 hsub3) hsub4) hS21.view) 0 rfl rfl) ?_
            refine o_bslice (cs := [(.string x2_.1)]) (e := 9) hS21 (fun _ => by kernel_rfl) ?_
            intro b4 w14 hS22
            obtain ⟨hsm3, hP⟩ := hP
            refine o_app (Ms := fun v9 => [blk b4 9 [(.string x2_.1)], vec v9 9 1 ((more_3 ++ [x2_.1]).length) ((more_3 ++ [x2_.1]).flatMap encTx), vec v3 9 1 reached_2.length ((reached_2).flatMap encTx)]) (k' := (more_3 ++ [x2_.1]).length) (xs' := (more_3 ++ [x2_.1]).flatMap encTx) Try.underlying29 Try.type9 rfl rfl (bytes := 16) rfl rfl (Nat.succ_pos _) hS22 rfl (q := 1) rfl rfl rfl (blk_row (hS22.get (i := 0) rfl)) (ones rfl) hsm3 (by omega) (by first | rfl | simp) (by simp [encTx]) (fun _ => rfl) ?_
            intro v9 w15 ho8 hS23
            have hS24 := hS23.drop 0 (ms' := [vec v9 9 1 ((more_3 ++ [x2_.1]).length) ((more_3 ++ [x2_.1]).flatMap encTx), vec v3 9 1 reached_2.length ((reached_2).flatMap encTx)]) rfl
            refine o_assign (v := v9) rfl ?_
            refine wpList_nil ?_
            refine blk_n ?_
            refine then_n ?_
            refine one_reg ?_
            refine o_move (v := (.int .i64 ((i_2 : Nat) : Int))) rfl ?_
            refine o_add (r := ((i_2 + 1 : Nat) : Int)) rfl rfl (nw (by omega) (by omega) (by have := hlen1; omega)) ?_
            refine o_assign (v := (.int .i64 ((i_2 + 1 : Nat) : Int))) rfl ?_
            refine wpList_nil ?_
            refine then_n ?_
            exact ⟨more_3 ++ [x2_.1], i_2 + 1, _, rfl, hP, v9, σ4, _, (upd_in rfl (upd_in rfl (upd_in rfl (upd_in rfl (upd_in rfl (upd_in rfl rfl)))))), hS24, (Sub.trans hsub3 hsub4), ho8, hsm3⟩
          · replace hP := hP.1 ht4
            refine wp_skip ?_
            refine blk_n ?_
            refine then_n ?_
            refine one_reg ?_
            refine o_move (v := (.int .i64 ((i_2 : Nat) : Int))) rfl ?_
            refine o_add (r := ((i_2 + 1 : Nat) : Int)) rfl rfl (nw (by omega) (by omega) (by have := hlen1; omega)) ?_
            refine o_assign (v := (.int .i64 ((i_2 + 1 : Nat) : Int))) rfl ?_
            refine wpList_nil ?_
            refine then_n ?_
            exact ⟨more_3, i_2 + 1, _, rfl, hP, v7, σ4, _, (upd_in rfl (upd_in rfl (upd_in rfl (upd_in rfl (upd_in rfl (upd_in rfl rfl)))))), hS21, (Sub.trans hsub3 hsub4), ho6, hl5⟩
        · replace hP := hP.2 (by simp [hb2])
          refine o_move (v := (.bool false)) (congrArg Value.bool hb2) ?_
          refine o_off rfl rfl ?_
          refine o_off rfl rfl ?_
          refine o_off rfl rfl ?_
          refine o_off rfl rfl ?_
          refine o_off rfl rfl ?_
          refine o_off rfl rfl ?_
          refine o_off rfl rfl ?_
          refine o_off rfl rfl ?_
          refine o_pick_f (v := (.bool false)) rfl rfl ?_
          refine wpList_nil ?_
          refine then_n ?_
          refine if_f rfl ?_
          refine wp_skip ?_
          refine blk_n ?_
          refine then_n ?_
          refine one_reg ?_
          refine o_move (v := (.int .i64 ((i_2 : Nat) : Int))) rfl ?_
          refine o_add (r := ((i_2 + 1 : Nat) : Int)) rfl rfl (nw (by omega) (by omega) (by have := hlen1; omega)) ?_
          refine o_assign (v := (.int .i64 ((i_2 + 1 : Nat) : Int))) rfl ?_
          refine wpList_nil ?_
          refine then_n ?_
          exact ⟨more_3, i_2 + 1, _, rfl, hP, v7, σ4, _, (upd_in rfl (upd_in rfl (upd_in rfl (upd_in rfl (upd_in rfl (upd_in rfl rfl)))))), hS19, (Sub.trans hsub3 hsub4), ho6, hl5⟩
    · replace hP := hP.2 ht2
      refine wp_exit ?_
      refine then_e ?_
      refine then_e ?_
      refine blk_hit ?_
      refine then_n ?_
      refine wp_seq ?_
      refine seq_reg ?_
      refine o_move (v := v6) rfl ?_
      refine o_len_vec hS9 rfl (i := 0) rfl Try.underlying29 ?_
      have hlen2 : more_2.length ≤ 9223372036854775807 := by have := hl4; unfold Sml at this; omega
      replace hP := hP hlen2
      refine o_move (v := v3) rfl ?_
      refine o_len_vec hS9 rfl (i := 1) rfl Try.underlying29 ?_
      have hlen3 : reached_2.length ≤ 9223372036854775807 := by have := hl2; unfold Sml at this; omega
      replace hP := hP hlen3
      refine o_eql (r := (decide (((more_2.length : Nat) : Int) = ((reached_2.length : Nat) : Int)))) rfl rfl rfl ?_
      refine wpList_nil ?_
      refine then_n ?_
      refine if_d (((more_2.length : Nat) : Int) = ((reached_2.length : Nat) : Int)) rfl (fun ht5 => ?_) (fun ht5 => ?_)
      · replace hP := hP.1 ht5
        refine seq_reg ?_
        refine o_assign (v := (.int .i64 (-1 : Int))) rfl ?_
        refine wpList_nil ?_
        refine then_n ?_
        refine wp_ret ?_
        refine then_r ?_
        refine blk_r ?_
        refine then_r ?_
        refine then_r ?_
        refine blk_r ?_
        refine ret1 rfl (show ev _ _ _ = (.int .i64 (-1 : Int)) from rfl) ?_
        exact ⟨(-1 : Int), rfl, hS9.done.forget, hP⟩
      · replace hP := hP.2 ht5
        refine wp_skip ?_
        refine then_n ?_
        refine one_reg ?_
        refine o_move (v := v6) rfl ?_
        refine o_assign (v := v6) rfl ?_
        refine wpList_nil ?_
        refine blk_n ?_
        refine then_n ?_
        refine one_reg ?_
        refine o_move (v := (.int .i64 ((n_2 : Nat) : Int))) rfl ?_
        obtain ⟨hi1, hP⟩ := hP
        refine o_add (r := ((n_2 + 1 : Nat) : Int)) rfl rfl (nwi (by omega) hi1) ?_
        refine o_assign (v := (.int .i64 ((n_2 + 1 : Nat) : Int))) rfl ?_
        refine wpList_nil ?_
        refine then_n ?_
        exact ⟨more_2, n_2 + 1, _, rfl, hP, v6, σ3, _, (upd_in rfl (upd_in rfl (upd_in rfl (upd_in rfl rfl)))), (hS9.keep 1 (ms' := [vec v6 9 1 more_2.length ((more_2).flatMap encTx)]) rfl), (Sub.trans hsub1 hsub3), ho5, hl4⟩

set_option maxHeartbeats 2000000 in
theorem w_ref26_Path {σ : Hv} {w : World} (l_p : (List Lk.L3)) (a_p : ByteArray) (b_p : ByteArray) (v1 : Value) {K : (List Lk.L3) → Bool → Prop} (hV : View σ w) (hr1 : RSl 3 (REnc encLk) σ v1 l_p) (hP : P_ref26_Path l_p a_p b_p K) :
    Calls Try.prog 26 #[v1, (.string a_p), (.string b_p)] w (fun e w1 => ∃ (r1 : (List Lk.L3)) (r2 : Bool) (v2 : Value), e = .returned (.tuple #[v2, (.bool (r2))]) ∧ Grow [] σ w σ w1 ∧ Sml r1.length ∧ ((vec v2 28 3 r1.length ((r1).flatMap encLk)).ok w1 ∧ ∀ k, (vec v2 28 3 r1.length ((r1).flatMap encLk)).foot = some k → w.heap.size ≤ k ∧ σ k = none) ∧ K r1 r2) := by
  unfold P_ref26_Path at hP
  obtain ⟨a1, cap1, rfl⟩ := hr1.shape
  refine enter Try.func26 rfl rfl rfl ?_
  have hS := St.start hV
  refine seq_reg ?_
  refine o_assign (v := (.slice none 0 0)) rfl ?_
  refine o_assign (v := (.bool false)) rfl ?_
  refine wpList_nil ?_
  refine then_n ?_
  refine seq_reg ?_
  refine o_move (v := (.slice a1 l_p.length cap1)) rfl ?_
  refine o_move (v := (.string a_p)) rfl ?_
  refine o_move (v := (.string b_p)) rfl ?_
  obtain ⟨Y1, hK1, hc1⟩ := hP
  refine o_call (args := [(.slice a1 l_p.length cap1), (.string a_p), (.string b_p)]) rfl Try.call39 (Calls.mono (w_ref26_distance l_p a_p b_p (.slice a1 l_p.length cap1) hS.view hr1 hc1) ?_)
  rintro _ w1 ⟨r1_, rfl, hg1, hY1⟩
  refine ⟨_, rfl, ?_⟩
  have hS1 := hS.grow hg1
  replace hP := hK1 r1_ hY1
  refine o_assign (v := (.int .i64 r1_)) rfl ?_
  refine wpList_nil ?_
  refine then_n ?_
  refine wp_seq ?_
  refine seq_reg ?_
  refine o_move (v := (.int .i64 r1_)) rfl ?_
  refine o_lss (r := (decide (r1_ < (0 : Int)))) rfl rfl rfl ?_
  refine wpList_nil ?_
  refine then_n ?_
  refine if_d (r1_ < (0 : Int)) rfl (fun ht1 => ?_) (fun ht1 => ?_)
  · replace hP := hP.1 ht1
    refine seq_reg ?_
    refine o_assign (v := (.slice none 0 0)) rfl ?_
    refine o_assign (v := (.bool false)) rfl ?_
    refine wpList_nil ?_
    refine then_n ?_
    refine wp_ret ?_
    refine then_r ?_
    refine ret2 rfl (show ev _ _ _ = (.slice none 0 0) from rfl) (show ev _ _ _ = (.bool false) from rfl) ?_
    have hS2 := hS1.addNil 28 3
    exact ⟨[], false, (.slice none 0 0), rfl, hS2.done.forget, (by simp [Sml]), hS2.own0 (i := 0) rfl, hP⟩
  · replace hP := hP.2 ht1
    refine wp_skip ?_
    refine then_n ?_
    refine seq_reg ?_
    refine o_assign (v := (.slice none 0 0)) rfl ?_
    refine wpList_nil ?_
    refine then_n ?_
    refine wp_seq ?_
    refine wp_block ?_
    have hS3 := hS1.addNil 28 3
    refine lp_loop3 (fun a_2 n_2 out_2 f z => ∃ (v4 : Value) (σ1 : Hv) (g : Fr), f = (upd (upd (upd (upd (upd g 0 (.slice a1 l_p.length cap1)) 1 (.string a_2)) 2 (.string b_p)) 8 (.int .i64 n_2)) 9 v4) ∧ St ⟨w, σ, []⟩ z σ1 [vec v4 28 3 out_2.length ((out_2).flatMap encLk)] ∧ Sub σ σ1 ∧ v4.oneCell' = true ∧ Sml out_2.length) hP ⟨(.slice none 0 0), σ, _, (upd_in rfl (upd_in rfl (upd_in rfl (upd_in rfl (upd_in rfl rfl))))), hS3, (Sub.refl _), rfl, (by simp [Sml])⟩ ?_
    clear hP
    rintro a_2 n_2 out_2 Y2 hP f w2 ⟨v4, σ1, g, rfl, hS4, hsub1, ho2, hl2⟩
    refine wp_seq ?_
    refine seq_reg ?_
    refine o_move (v := (.int .i64 n_2)) rfl ?_
    refine o_gtr (r := (decide ((0 : Int) < n_2))) rfl rfl rfl ?_
    refine wpList_nil ?_
    refine then_n ?_
    refine if_d ((0 : Int) < n_2) rfl (fun ht2 => ?_) (fun ht2 => ?_)
    · replace hP := hP.1 ht2
      refine wp_skip ?_
      refine then_n ?_
      refine wp_block ?_
      refine wp_seq ?_
      refine seq_reg ?_
      refine o_assign (v := (.int .i64 (0 : Int))) rfl ?_
      refine wpList_nil ?_
      refine then_n ?_
      refine wp_block ?_
      refine lp_loop3 (fun a_4 out_4 i_2 f z => ∃ (v6 : Value) (σ2 : Hv) (g : Fr), f = (upd (upd (upd (upd (upd (upd g 0 (.slice a1 l_p.length cap1)) 1 (.string a_4)) 2 (.string b_p)) 8 (.int .i64 n_2)) 9 v6) 10 (.int .i64 ((i_2 : Nat) : Int))) ∧ St ⟨w, σ, []⟩ z σ2 [vec v6 28 3 out_4.length ((out_4).flatMap encLk)] ∧ Sub σ1 σ2 ∧ v6.oneCell' = true ∧ Sml out_4.length) hP ⟨v4, σ1, _, (upd_in rfl (upd_in rfl (upd_in rfl (upd_in rfl (upd_in rfl (upd_in rfl rfl)))))), hS4, (Sub.refl _), ho2, hl2⟩ ?_
      clear hP
      rintro a_4 out_4 i_2 Y3 hP f w3 ⟨v6, σ2, g, rfl, hS5, hsub2, ho4, hl4⟩
      refine wp_seq ?_
      refine seq_reg ?_
      refine o_move (v := (.int .i64 ((i_2 : Nat) : Int))) rfl ?_
      refine o_move (v := (.slice a1 l_p.length cap1)) rfl ?_
      refine o_len_slice rfl Try.underlying24 ?_
      have hlen1 := RSl.len63 hr1
      replace hP := hP hlen1
      refine o_lss (r := (decide (((i_2 : Nat) : Int) < ((l_p.length : Nat) : Int)))) rfl rfl rfl ?_
      refine wpList_nil ?_
      refine then_n ?_
      refine if_d (((i_2 : Nat) : Int) < ((l_p.length : Nat) : Int)) rfl (fun ht3 => ?_) (fun ht3 => ?_)
      · replace hP := hP.1 ht3
        refine wp_skip ?_
        refine then_n ?_
        refine wp_seq ?_
        refine wp_block ?_
        refine wp_seq ?_
        refine d_reg (fun z => St ⟨w, σ, []⟩ z σ2 [vec v6 28 3 out_4.length ((out_4).flatMap encLk)]) (by kernel_rfl) rfl rfl ?_
        have hS6 := hS5.drew
        refine d_take (i := 0) (v := (.slice a1 l_p.length cap1)) (l' := #[true, false, false, false, false, false, false, false, false, false, false, false, false, false]) rfl (by kernel_rfl) (by kernel_rfl) (by kernel_rfl) rfl rfl (fun _ _ _ h => h) hS6 (fun w hJ K hK => ?_) ?_
        · refine o_move (v := (.slice a1 l_p.length cap1)) rfl ?_
          exact ⟨rfl, hK⟩
        refine d_take (i := 1) (v := (.int .i64 ((i_2 : Nat) : Int))) (l' := #[true, true, false, false, false, false, false, false, false, false, false, false, false, false]) rfl (by kernel_rfl) (by kernel_rfl) (by kernel_rfl) rfl rfl (fun _ _ _ h => h) hS6 (fun w hJ K hK => ?_) ?_
        · refine o_move (v := (.int .i64 ((i_2 : Nat) : Int))) rfl ?_
          exact ⟨rfl, hK⟩
        obtain ⟨x1_, hx1⟩ := getq (l := l_p) (k := i_2) (by have := ht3; omega)
        replace hP := hP x1_ hx1
        obtain ⟨ad1, cs1, ha1, hl5, hr3, hR1, hlt1⟩ := RSl.at hr1 hx1
        cases hR1
        refine d_take (i := 2) (v := (.pointer (some (ad1.add (i_2 * 3))))) (l' := #[true, true, true, false, false, false, false, false, false, false, false, false, false, false]) rfl (by kernel_rfl) (by kernel_rfl) (by kernel_rfl) rfl rfl (fun _ _ _ h => h) hS6 (fun w hJ K hK => ?_) ?_
        · refine o_iaddr_slice (k := i_2) (a' := (ad1.add (i_2 * 3))) (congrArg (fun z => Value.slice z _ _) ha1) rfl rfl hlt1 Try.underlying24 Try.sizeOf28 rfl ?_
          exact ⟨rfl, hK⟩
        refine d_take (i := 3) (v := (.pointer (some (((ad1.add (i_2 * 3))).add 1)))) (l' := #[true, true, true, true, false, false, false, false, false, false, false, false, false, false]) rfl (by kernel_rfl) (by kernel_rfl) (by kernel_rfl) rfl rfl (fun _ _ _ h => h) hS6 (fun w hJ K hK => ?_) ?_
        · refine o_faddr (a' := (((ad1.add (i_2 * 3))).add 1)) rfl Try.underlying28 rfl Try.sizeOf9 rfl ?_
          exact ⟨rfl, hK⟩
        refine d_take (i := 4) (v := (.string x1_.2.1)) (l' := #[true, true, true, true, true, false, false, false, false, false, false, false, false, false]) rfl (by kernel_rfl) (by kernel_rfl) (by kernel_rfl) rfl rfl (fun _ _ _ h => h) hS6 (fun w hJ K hK => ?_) ?_
        · refine o_load (v := (.string x1_.2.1)) rfl Try.isAgg9 (hr3.cell (View.of (Sub.trans hsub1 hsub2) hJ.view) 1 rfl rfl) ?_
          exact ⟨rfl, hK⟩
        refine d_take (i := 5) (v := (.slice a1 l_p.length cap1)) (l' := #[true, true, true, true, true, true, false, false, false, false, false, false, false, false]) rfl (by kernel_rfl) (by kernel_rfl) (by kernel_rfl) rfl rfl (fun _ _ _ h => h) hS6 (fun w hJ K hK => ?_) ?_
        · refine o_move (v := (.slice a1 l_p.length cap1)) rfl ?_
          exact ⟨rfl, hK⟩
        refine d_take (i := 6) (v := (.int .i64 ((i_2 : Nat) : Int))) (l' := #[true, true, true, true, true, true, true, false, false, false, false, false, false, false]) rfl (by kernel_rfl) (by kernel_rfl) (by kernel_rfl) rfl rfl (fun _ _ _ h => h) hS6 (fun w hJ K hK => ?_) ?_
        · refine o_move (v := (.int .i64 ((i_2 : Nat) : Int))) rfl ?_
          exact ⟨rfl, hK⟩
        refine d_take (i := 7) (v := (.pointer (some (ad1.add (i_2 * 3))))) (l' := #[true, true, true, true, true, true, true, true, false, false, false, false, false, false]) rfl (by kernel_rfl) (by kernel_rfl) (by kernel_rfl) rfl rfl (fun _ _ _ h => h) hS6 (fun w hJ K hK => ?_) ?_
        · refine o_iaddr_slice (k := i_2) (a' := (ad1.add (i_2 * 3))) (congrArg (fun z => Value.slice z _ _) ha1) rfl rfl hlt1 Try.underlying24 Try.sizeOf28 rfl ?_
          exact ⟨rfl, hK⟩
        refine d_take (i := 8) (v := (.pointer (some (((ad1.add (i_2 * 3))).add 0)))) (l' := #[true, true, true, true, true, true, true, true, true, false, false, false, false, false]) rfl (by kernel_rfl) (by kernel_rfl) (by kernel_rfl) rfl rfl (fun _ _ _ h => h) hS6 (fun w hJ K hK => ?_) ?_
        · refine o_faddr (a' := (((ad1.add (i_2 * 3))).add 0)) rfl Try.underlying28 rfl Try.sizeOf9 rfl ?_
          exact ⟨rfl, hK⟩
        refine d_take (i := 9) (v := (.string x1_.1)) (l' := #[true, true, true, true, true, true, true, true, true, true, false, false, false, false]) rfl (by kernel_rfl) (by kernel_rfl) (by kernel_rfl) rfl rfl (fun _ _ _ h => h) hS6 (fun w hJ K hK => ?_) ?_
        · refine o_load (v := (.string x1_.1)) rfl Try.isAgg9 (hr3.cell (View.of (Sub.trans hsub1 hsub2) hJ.view) 0 rfl rfl) ?_
          exact ⟨rfl, hK⟩
        refine d_take (i := 10) (v := (.string a_4)) (l' := #[true, true, true, true, true, true, true, true, true, true, true, false, false, false]) rfl (by kernel_rfl) (by kernel_rfl) (by kernel_rfl) rfl rfl (fun _ _ _ h => h) hS6 (fun w hJ K hK => ?_) ?_
        · refine o_move (v := (.string a_4)) rfl ?_
          exact ⟨rfl, hK⟩
        refine d_take (i := 11) (v := (.bool (decide (x1_.1 = a_4)))) (l' := #[true, true, true, true, true, true, true, true, true, true, true, true, false, false]) rfl (by kernel_rfl) (by kernel_rfl) (by kernel_rfl) rfl rfl (fun _ _ _ h => h) hS6 (fun w hJ K hK => ?_) ?_
        · refine o_eqls (r := (decide (x1_.1 = a_4))) rfl rfl rfl ?_
          exact ⟨rfl, hK⟩
        refine d_take (i := 12) (v := (.string x1_.2.1)) (l' := #[true, true, true, true, true, true, true, true, true, true, true, true, true, false]) rfl (by kernel_rfl) (by kernel_rfl) (by kernel_rfl) rfl rfl (fun _ _ _ h => h) hS6 (fun w hJ K hK => ?_) ?_
        · refine o_assign (v := (.string x1_.2.1)) rfl ?_
          exact ⟨rfl, hK⟩
        refine d_take (i := 13) (v := (.bool (decide (x1_.1 = a_4)))) (l' := #[true, true, true, true, true, true, true, true, true, true, true, true, true, true]) rfl (by kernel_rfl) (by kernel_rfl) (by kernel_rfl) rfl rfl (fun _ _ _ h => h) hS6 (fun w hJ K hK => ?_) ?_
        · refine o_assign (v := (.bool (decide (x1_.1 = a_4)))) rfl ?_
          exact ⟨rfl, hK⟩
        refine d_done (by kernel_rfl) ?_
        refine then_n ?_
        obtain ⟨Y4, hK2, hP⟩ := hP
        refine cut (fun f z => ∃ (next_1 : ByteArray) (joins_1 : Bool) (σ3 : Hv) (g : Fr), Y4 next_1 joins_1 ∧ f = (upd (upd (upd (upd (upd (upd (upd (upd g 0 (.slice a1 l_p.length cap1)) 1 (.string a_4)) 2 (.string b_p)) 8 (.int .i64 n_2)) 9 v6) 10 (.int .i64 ((i_2 : Nat) : Int))) 11 (.string next_1)) 12 (.bool (joins_1))) ∧ St ⟨w, σ, []⟩ z σ3 [vec v6 28 3 out_4.length ((out_4).flatMap encLk)] ∧ Sub σ2 σ3) ?_ ?_
        · refine seq_reg ?_
          refine o_move (v := (.bool (decide (x1_.1 = a_4)))) rfl ?_
          refine o_not (r := (!decide (x1_.1 = a_4))) rfl rfl ?_
          refine wpList_nil ?_
          refine then_n ?_
          refine if_nd (x1_.1 = a_4) rfl (fun ht4 => ?_) (fun ht4 => ?_)
          · replace hP := hP.2 ht4
            refine d_reg (fun z => St ⟨w, σ, []⟩ z σ2 [vec v6 28 3 out_4.length ((out_4).flatMap encLk)]) (by kernel_rfl) rfl rfl ?_
            have hS7 := hS6.drew
            refine d_take (i := 0) (v := (.slice a1 l_p.length cap1)) (l' := #[true, false, false, false, false, false, false, false, false, false, false, false, false, false]) rfl (by kernel_rfl) (by kernel_rfl) (by kernel_rfl) rfl rfl (fun _ _ _ h => h) hS7 (fun w hJ K hK => ?_) ?_
            · refine o_move (v := (.slice a1 l_p.length cap1)) rfl ?_
              exact ⟨rfl, hK⟩
            refine d_take (i := 1) (v := (.int .i64 ((i_2 : Nat) : Int))) (l' := #[true, true, false, false, false, false, false, false, false, false, false, false, false, false]) rfl (by kernel_rfl) (by kernel_rfl) (by kernel_rfl) rfl rfl (fun _ _ _ h => h) hS7 (fun w hJ K hK => ?_) ?_
            · refine o_move (v := (.int .i64 ((i_2 : Nat) : Int))) rfl ?_
              exact ⟨rfl, hK⟩
            refine d_take (i := 2) (v := (.pointer (some (ad1.add (i_2 * 3))))) (l' := #[true, true, true, false, false, false, false, false, false, false, false, false, false, false]) rfl (by kernel_rfl) (by kernel_rfl) (by kernel_rfl) rfl rfl (fun _ _ _ h => h) hS7 (fun w hJ K hK => ?_) ?_
            · refine o_iaddr_slice (k := i_2) (a' := (ad1.add (i_2 * 3))) (congrArg (fun z => Value.slice z _ _) ha1) rfl rfl hlt1 Try.underlying24 Try.sizeOf28 rfl ?_
              exact ⟨rfl, hK⟩
            refine d_take (i := 3) (v := (.pointer (some (((ad1.add (i_2 * 3))).add 0)))) (l' := #[true, true, true, true, false, false, false, false, false, false, false, false, false, false]) rfl (by kernel_rfl) (by kernel_rfl) (by kernel_rfl) rfl rfl (fun _ _ _ h => h) hS7 (fun w hJ K hK => ?_) ?_
            · refine o_faddr (a' := (((ad1.add (i_2 * 3))).add 0)) rfl Try.underlying28 rfl Try.sizeOf9 rfl ?_
              exact ⟨rfl, hK⟩
            refine d_take (i := 4) (v := (.string x1_.1)) (l' := #[true, true, true, true, true, false, false, false, false, false, false, false, false, false]) rfl (by kernel_rfl) (by kernel_rfl) (by kernel_rfl) rfl rfl (fun _ _ _ h => h) hS7 (fun w hJ K hK => ?_) ?_
            · refine o_load (v := (.string x1_.1)) rfl Try.isAgg9 (hr3.cell (View.of (Sub.trans hsub1 hsub2) hJ.view) 0 rfl rfl) ?_
              exact ⟨rfl, hK⟩
            refine d_take (i := 5) (v := (.slice a1 l_p.length cap1)) (l' := #[true, true, true, true, true, true, false, false, false, false, false, false, false, false]) rfl (by kernel_rfl) (by kernel_rfl) (by kernel_rfl) rfl rfl (fun _ _ _ h => h) hS7 (fun w hJ K hK => ?_) ?_
            · refine o_move (v := (.slice a1 l_p.length cap1)) rfl ?_
              exact ⟨rfl, hK⟩
            refine d_take (i := 6) (v := (.int .i64 ((i_2 : Nat) : Int))) (l' := #[true, true, true, true, true, true, true, false, false, false, false, false, false, false]) rfl (by kernel_rfl) (by kernel_rfl) (by kernel_rfl) rfl rfl (fun _ _ _ h => h) hS7 (fun w hJ K hK => ?_) ?_
            · refine o_move (v := (.int .i64 ((i_2 : Nat) : Int))) rfl ?_
              exact ⟨rfl, hK⟩
            refine d_take (i := 7) (v := (.pointer (some (ad1.add (i_2 * 3))))) (l' := #[true, true, true, true, true, true, true, true, false, false, false, false, false, false]) rfl (by kernel_rfl) (by kernel_rfl) (by kernel_rfl) rfl rfl (fun _ _ _ h => h) hS7 (fun w hJ K hK => ?_) ?_
            · refine o_iaddr_slice (k := i_2) (a' := (ad1.add (i_2 * 3))) (congrArg (fun z => Value.slice z _ _) ha1) rfl rfl hlt1 Try.underlying24 Try.sizeOf28 rfl ?_
              exact ⟨rfl, hK⟩
            refine d_take (i := 8) (v := (.pointer (some (((ad1.add (i_2 * 3))).add 1)))) (l' := #[true, true, true, true, true, true, true, true, true, false, false, false, false, false]) rfl (by kernel_rfl) (by kernel_rfl) (by kernel_rfl) rfl rfl (fun _ _ _ h => h) hS7 (fun w hJ K hK => ?_) ?_
            · refine o_faddr (a' := (((ad1.add (i_2 * 3))).add 1)) rfl Try.underlying28 rfl Try.sizeOf9 rfl ?_
              exact ⟨rfl, hK⟩
            refine d_take (i := 9) (v := (.string x1_.2.1)) (l' := #[true, true, true, true, true, true, true, true, true, true, false, false, false, false]) rfl (by kernel_rfl) (by kernel_rfl) (by kernel_rfl) rfl rfl (fun _ _ _ h => h) hS7 (fun w hJ K hK => ?_) ?_
            · refine o_load (v := (.string x1_.2.1)) rfl Try.isAgg9 (hr3.cell (View.of (Sub.trans hsub1 hsub2) hJ.view) 1 rfl rfl) ?_
              exact ⟨rfl, hK⟩
            refine d_take (i := 10) (v := (.string a_4)) (l' := #[true, true, true, true, true, true, true, true, true, true, true, false, false, false]) rfl (by kernel_rfl) (by kernel_rfl) (by kernel_rfl) rfl rfl (fun _ _ _ h => h) hS7 (fun w hJ K hK => ?_) ?_
            · refine o_move (v := (.string a_4)) rfl ?_
              exact ⟨rfl, hK⟩
            refine d_take (i := 11) (v := (.bool (decide (x1_.2.1 = a_4)))) (l' := #[true, true, true, true, true, true, true, true, true, true, true, true, false, false]) rfl (by kernel_rfl) (by kernel_rfl) (by kernel_rfl) rfl rfl (fun _ _ _ h => h) hS7 (fun w hJ K hK => ?_) ?_
            · refine o_eqls (r := (decide (x1_.2.1 = a_4))) rfl rfl rfl ?_
              exact ⟨rfl, hK⟩
            refine d_take (i := 12) (v := (.string x1_.1)) (l' := #[true, true, true, true, true, true, true, true, true, true, true, true, true, false]) rfl (by kernel_rfl) (by kernel_rfl) (by kernel_rfl) rfl rfl (fun _ _ _ h => h) hS7 (fun w hJ K hK => ?_) ?_
            · refine o_assign (v := (.string x1_.1)) rfl ?_
              exact ⟨rfl, hK⟩
            refine d_take (i := 13) (v := (.bool (decide (x1_.2.1 = a_4)))) (l' := #[true, true, true, true, true, true, true, true, true, true, true, true, true, true]) rfl (by kernel_rfl) (by kernel_rfl) (by kernel_rfl) rfl rfl (fun _ _ _ h => h) hS7 (fun w hJ K hK => ?_) ?_
            · refine o_assign (v := (.bool (decide (x1_.2.1 = a_4)))) rfl ?_
              exact ⟨rfl, hK⟩
            refine d_done (by kernel_rfl) ?_
            refine then_n ?_
            exact ⟨_, rfl, x1_.1, (decide (x1_.2.1 = a_4)), σ2, _, hP, (upd_in rfl (upd_in rfl (upd_in rfl (upd_in rfl (upd_in rfl (upd_in rfl (upd_in rfl (upd_in rfl rfl)))))))), hS7, (Sub.refl _)⟩
          · replace hP := hP.1 ht4
            refine wp_skip ?_
            refine then_n ?_
            exact ⟨_, rfl, x1_.2.1, (decide (x1_.1 = a_4)), σ2, _, hP, (upd_in rfl (upd_in rfl (upd_in rfl (upd_in rfl (upd_in rfl (upd_in rfl (upd_in rfl (upd_in rfl rfl)))))))), hS6, (Sub.refl _)⟩
        · rintro f w4 ⟨next_1, joins_1, σ3, g, hY2, rfl, hS8, hsub3⟩
          replace hP := hK2 next_1 joins_1 hY2
          refine seq_reg ?_
          refine o_move (v := (.bool (joins_1))) rfl ?_
          rcases Bool.eq_false_or_eq_true (joins_1) with hb1 | hb1
          · replace hP := hP.1 hb1
            refine o_move (v := (.bool true)) (congrArg Value.bool hb1) ?_
            refine o_on rfl rfl ?_
            refine o_move (v := (.slice a1 l_p.length cap1)) rfl ?_
            refine o_on rfl rfl ?_
            refine o_move (v := (.string next_1)) rfl ?_
            refine o_on rfl rfl ?_
            refine o_move (v := (.string b_p)) rfl ?_
            refine o_on rfl rfl ?_
            obtain ⟨Y5, hK3, hc2⟩ := hP
            refine o_call (args := [(.slice a1 l_p.length cap1), (.string next_1), (.string b_p)]) rfl Try.call39 (Calls.mono (w_ref26_distance l_p next_1 b_p (.slice a1 l_p.length cap1) hS8.view (RSl.menc (Sub.trans (Sub.trans hsub1 hsub2) hsub3) hr1) hc2) ?_)
            rintro _ w5 ⟨r2_, rfl, hg2, hY3⟩
            refine ⟨_, rfl, ?_⟩
            have hS9 := hS8.grow hg2
            replace hP := hK3 r2_ hY3
            refine o_on rfl rfl ?_
            refine o_move (v := (.int .i64 n_2)) rfl ?_
            refine o_on rfl rfl ?_
            obtain ⟨hi1, hP⟩ := hP
            refine o_sub (r := (n_2 - (1 : Int))) rfl rfl (nwi rfl hi1) ?_
            refine o_on rfl rfl ?_
            refine o_eql (r := (decide (r2_ = (n_2 - (1 : Int))))) rfl rfl rfl ?_
            refine o_pick_t (v := (.bool (decide (r2_ = (n_2 - (1 : Int)))))) rfl rfl ?_
            refine wpList_nil ?_
            refine then_n ?_
            refine if_d (r2_ = (n_2 - (1 : Int))) rfl (fun ht5 => ?_) (fun ht5 => ?_)
            · replace hP := hP.1 ht5
              refine seq_reg ?_
              refine o_move (v := v6) rfl ?_
              refine o_move (v := (.slice a1 l_p.length cap1)) rfl ?_
              refine o_move (v := (.int .i64 ((i_2 : Nat) : Int))) rfl ?_
              refine o_iaddr_slice (k := i_2) (a' := (ad1.add (i_2 * 3))) (congrArg (fun z => Value.slice z _ _) ha1) rfl rfl hlt1 Try.underlying24 Try.sizeOf28 rfl ?_
              refine o_loadA (cs := [(.string x1_.1), (.string x1_.2.1), (.int .i64 x1_.2.2)]) rfl Try.isAgg28 Try.sizeOf28 rfl (hr3.row (View.of (Sub.trans (Sub.trans hsub1 hsub2) hsub3) hS9.view)) ?_
              refine o_bslice (cs := [(.string x1_.1), (.string x1_.2.1), (.int .i64 x1_.2.2)]) (e := 28) hS9 (fun _ => by kernel_rfl) ?_
              intro b1 w6 hS10
              obtain ⟨hsm1, hP⟩ := hP
              refine o_app (Ms := fun v7 => [blk b1 28 [(.string x1_.1), (.string x1_.2.1), (.int .i64 x1_.2.2)], vec v7 28 3 ((out_4 ++ [x1_]).length) ((out_4 ++ [x1_]).flatMap encLk)]) (k' := (out_4 ++ [x1_]).length) (xs' := (out_4 ++ [x1_]).flatMap encLk) Try.underlying24 Try.type28 rfl rfl (bytes := 40) rfl rfl (Nat.succ_pos _) hS10 rfl (q := 1) rfl rfl rfl (blk_row (hS10.get (i := 0) rfl)) (ones rfl) hsm1 (by omega) (by first | rfl | simp) (by simp [encLk]) (fun _ => rfl) ?_
              intro v7 w7 ho5 hS11
              have hS12 := hS11.drop 0 (ms' := [vec v7 28 3 ((out_4 ++ [x1_]).length) ((out_4 ++ [x1_]).flatMap encLk)]) rfl
              refine o_assign (v := v7) rfl ?_
              refine wpList_nil ?_
              refine then_n ?_
              refine seq_reg ?_
              refine o_move (v := (.string next_1)) rfl ?_
              refine o_assign (v := (.string next_1)) rfl ?_
              refine wpList_nil ?_
              refine then_n ?_
              refine wp_exit ?_
              refine blk_miss rfl ?_
              refine then_e ?_
              refine then_e ?_
              refine blk_hit ?_
              refine then_n ?_
              refine one_reg ?_
              refine o_move (v := (.int .i64 n_2)) rfl ?_
              obtain ⟨hi2, hP⟩ := hP
              refine o_sub (r := (n_2 - (1 : Int))) rfl rfl (nwi rfl hi2) ?_
              refine o_assign (v := (.int .i64 (n_2 - (1 : Int)))) rfl ?_
              refine wpList_nil ?_
              refine blk_n ?_
              refine then_n ?_
              exact ⟨next_1, (n_2 - (1 : Int)), out_4 ++ [x1_], _, rfl, hP, v7, σ3, _, (upd_in rfl (upd_in rfl (upd_in rfl (upd_in rfl (upd_in rfl rfl))))), hS12, (Sub.trans (Sub.trans hsub1 hsub2) hsub3), ho5, hsm1⟩
            · replace hP := hP.2 ht5
              refine wp_skip ?_
              refine blk_n ?_
              refine then_n ?_
              refine one_reg ?_
              refine o_move (v := (.int .i64 ((i_2 : Nat) : Int))) rfl ?_
              refine o_add (r := ((i_2 + 1 : Nat) : Int)) rfl rfl (nw (by omega) (by omega) (by have := hlen1; omega)) ?_
              refine o_assign (v := (.int .i64 ((i_2 + 1 : Nat) : Int))) rfl ?_
              refine wpList_nil ?_
              refine then_n ?_
              exact ⟨a_4, out_4, i_2 + 1, _, rfl, hP, v6, σ3, _, (upd_in rfl (upd_in rfl (upd_in rfl (upd_in rfl (upd_in rfl (upd_in rfl rfl)))))), hS9, (Sub.trans hsub2 hsub3), ho4, hl4⟩
          · replace hP := hP.2 (by simp [hb1])
            refine o_move (v := (.bool false)) (congrArg Value.bool hb1) ?_
            refine o_off rfl rfl ?_
            refine o_off rfl rfl ?_
            refine o_off rfl rfl ?_
            refine o_off rfl rfl ?_
            refine o_off rfl rfl ?_
            refine o_off rfl rfl ?_
            refine o_off rfl rfl ?_
            refine o_pick_f (v := (.bool false)) rfl rfl ?_
            refine wpList_nil ?_
            refine then_n ?_
            refine if_f rfl ?_
            refine wp_skip ?_
            refine blk_n ?_
            refine then_n ?_
            refine one_reg ?_
            refine o_move (v := (.int .i64 ((i_2 : Nat) : Int))) rfl ?_
            refine o_add (r := ((i_2 + 1 : Nat) : Int)) rfl rfl (nw (by omega) (by omega) (by have := hlen1; omega)) ?_
            refine o_assign (v := (.int .i64 ((i_2 + 1 : Nat) : Int))) rfl ?_
            refine wpList_nil ?_
            refine then_n ?_
            exact ⟨a_4, out_4, i_2 + 1, _, rfl, hP, v6, σ3, _, (upd_in rfl (upd_in rfl (upd_in rfl (upd_in rfl (upd_in rfl (upd_in rfl rfl)))))), hS8, (Sub.trans hsub2 hsub3), ho4, hl4⟩
      · replace hP := hP.2 ht3
        refine wp_exit ?_
        refine then_e ?_
        refine then_e ?_
        refine blk_hit ?_
        refine then_n ?_
        refine one_reg ?_
        refine o_move (v := (.int .i64 n_2)) rfl ?_
        obtain ⟨hi3, hP⟩ := hP
        refine o_sub (r := (n_2 - (1 : Int))) rfl rfl (nwi rfl hi3) ?_
        refine o_assign (v := (.int .i64 (n_2 - (1 : Int)))) rfl ?_
        refine wpList_nil ?_
        refine blk_n ?_
        refine then_n ?_
        exact ⟨a_4, (n_2 - (1 : Int)), out_4, _, rfl, hP, v6, σ2, _, (upd_in rfl (upd_in rfl (upd_in rfl (upd_in rfl (upd_in rfl rfl))))), hS5, (Sub.trans hsub1 hsub2), ho4, hl4⟩
    · replace hP := hP.2 ht2
      refine wp_exit ?_
      refine then_e ?_
      refine then_e ?_
      refine blk_hit ?_
      refine then_n ?_
      refine seq_reg ?_
      refine o_move (v := v4) rfl ?_
      refine o_assign (v := v4) rfl ?_
      refine o_assign (v := (.bool true)) rfl ?_
      refine wpList_nil ?_
      refine then_n ?_
      refine wp_ret ?_
      refine ret2 rfl (show ev _ _ _ = v4 from rfl) (show ev _ _ _ = (.bool true) from rfl) ?_
      exact ⟨out_2, true, v4, rfl, hS4.done.forget, hl2, hS4.own0 (i := 0) rfl, hP⟩

theorem g_28 (op : BinOp) (x y : Operand) (a b : Array Value) : ∀ w, (eqGuard op 28 x y (.agg a) (.agg b)).run Try.prog w = .ok () w :=
  fun w => run_eqGuard_agg w op 28 x y a b (by kernel_rfl)
theorem e_28 (a0 b0 : ByteArray) (a1 b1 : ByteArray) (a2 b2 : Int) : ∀ w, (binOp .eql 28 (.agg #[.string a0, .string a1, .int .i64 a2]) (.agg #[.string b0, .string b1, .int .i64 b2])).run Try.prog w = .ok (.bool (decide (a0 = b0 ∧ a1 = b1 ∧ a2 = b2))) w := by
  intro w
  rw [run_eql_struct, run_equalIn_struct w 9999 28 _ _ (by kernel_rfl) (by kernel_rfl)]
  have ei3 : ∀ (x y : Int) (w : World), (Op.equalIn 9999 3 (.int .i64 x) (.int .i64 y)).run Try.prog w = .ok (x == y) w := fun x y w => run_equalIn_int w 9998 3 _ _ x y Try.underlying3
  have es9 : ∀ (x y : ByteArray) (w : World), (Op.equalIn 9999 9 (.string x) (.string y)).run Try.prog w = .ok (decide (x = y)) w := fun x y w => by rw [run_equalIn_string w 9998 9 x y Try.underlying9, bytes_beq]
  rw [show (Try.prog.fieldsOf 28).toList = [⟨ "A", 9, 0, False, "", "", 0⟩, ⟨ "B", 9, 1, False, "", "", 16⟩, ⟨ "Time", 3, 2, False, "", "", 32⟩] from by kernel_rfl]
  by_cases h0 : a0 = b0 <;> by_cases h1 : a1 = b1 <;> by_cases h2 : a2 = b2 <;> simp [Op.eqFields, part, h0, h1, h2, ei3, es9]
theorem ne_28 (a0 b0 : ByteArray) (a1 b1 : ByteArray) (a2 b2 : Int) : ∀ w, (binOp .neq 28 (.agg #[.string a0, .string a1, .int .i64 a2]) (.agg #[.string b0, .string b1, .int .i64 b2])).run Try.prog w = .ok (.bool (!decide (a0 = b0 ∧ a1 = b1 ∧ a2 = b2))) w := by
  intro w
  rw [run_neq_struct, run_equalIn_struct w 9999 28 _ _ (by kernel_rfl) (by kernel_rfl)]
  have ei3 : ∀ (x y : Int) (w : World), (Op.equalIn 9999 3 (.int .i64 x) (.int .i64 y)).run Try.prog w = .ok (x == y) w := fun x y w => run_equalIn_int w 9998 3 _ _ x y Try.underlying3
  have es9 : ∀ (x y : ByteArray) (w : World), (Op.equalIn 9999 9 (.string x) (.string y)).run Try.prog w = .ok (decide (x = y)) w := fun x y w => by rw [run_equalIn_string w 9998 9 x y Try.underlying9, bytes_beq]
  rw [show (Try.prog.fieldsOf 28).toList = [⟨ "A", 9, 0, False, "", "", 0⟩, ⟨ "B", 9, 1, False, "", "", 16⟩, ⟨ "Time", 3, 2, False, "", "", 32⟩] from by kernel_rfl]
  by_cases h0 : a0 = b0 <;> by_cases h1 : a1 = b1 <;> by_cases h2 : a2 = b2 <;> simp [Op.eqFields, part, h0, h1, h2, ei3, es9]

set_option maxHeartbeats 2000000 in
theorem w_ref26_SameLinks {σ : Hv} {w : World} (a_p : (List Lk.L3)) (b_p : (List Lk.L3)) (v1 : Value) (v2 : Value) {K : Bool → Prop} (hV : View σ w) (hr1 : RSl 3 (REnc encLk) σ v1 a_p) (hr2 : RSl 3 (REnc encLk) σ v2 b_p) (hP : P_ref26_SameLinks a_p b_p K) :
    Calls Try.prog 22 #[v1, v2] w (fun e w1 => ∃ (r1 : Bool), e = .returned (.bool (r1)) ∧ Grow [] σ w σ w1 ∧ K r1) := by
  unfold P_ref26_SameLinks at hP
  obtain ⟨a1, cap1, rfl⟩ := hr1.shape
  obtain ⟨a2, cap2, rfl⟩ := hr2.shape
  refine enter Try.func22 rfl rfl rfl ?_
  have hS := St.start hV
  refine seq_reg ?_
  refine o_assign (v := (.bool false)) rfl ?_
  refine wpList_nil ?_
  refine then_n ?_
  refine wp_seq ?_
  refine seq_reg ?_
  refine o_move (v := (.slice a1 a_p.length cap1)) rfl ?_
  refine o_len_slice rfl Try.underlying24 ?_
  have hlen1 := RSl.len63 hr1
  replace hP := hP hlen1
  refine o_move (v := (.slice a2 b_p.length cap2)) rfl ?_
  refine o_len_slice rfl Try.underlying24 ?_
  have hlen2 := RSl.len63 hr2
  replace hP := hP hlen2
  refine o_neq (r := (!decide (((a_p.length : Nat) : Int) = ((b_p.length : Nat) : Int)))) rfl rfl rfl ?_
  refine wpList_nil ?_
  refine then_n ?_
  refine if_nd (((a_p.length : Nat) : Int) = ((b_p.length : Nat) : Int)) rfl (fun ht1 => ?_) (fun ht1 => ?_)
  · replace hP := hP.2 ht1
    refine seq_reg ?_
    refine o_assign (v := (.bool false)) rfl ?_
    refine wpList_nil ?_
    refine then_n ?_
    refine wp_ret ?_
    refine then_r ?_
    refine ret1 rfl (show ev _ _ _ = (.bool false) from rfl) ?_
    exact ⟨false, rfl, hS.done.forget, hP⟩
  · replace hP := hP.1 ht1
    refine wp_skip ?_
    refine then_n ?_
    refine wp_seq ?_
    refine seq_reg ?_
    refine o_assign (v := (.int .i64 (0 : Int))) rfl ?_
    refine wpList_nil ?_
    refine then_n ?_
    refine wp_block ?_
    refine lp_loop1 (fun i_2 f z => ∃ (σ1 : Hv) (g : Fr), f = (upd (upd (upd g 0 (.slice a1 a_p.length cap1)) 1 (.slice a2 b_p.length cap2)) 5 (.int .i64 ((i_2 : Nat) : Int))) ∧ St ⟨w, σ, []⟩ z σ1 [] ∧ Sub σ σ1) hP ⟨σ, _, (upd_in rfl (upd_in rfl (upd_in rfl rfl))), hS, (Sub.refl _)⟩ ?_
    clear hP
    rintro i_2 Y1 hP f w1 ⟨σ1, g, rfl, hS1, hsub1⟩
    refine wp_seq ?_
    refine seq_reg ?_
    refine o_move (v := (.int .i64 ((i_2 : Nat) : Int))) rfl ?_
    refine o_move (v := (.slice a1 a_p.length cap1)) rfl ?_
    refine o_len_slice rfl Try.underlying24 ?_
    refine o_lss (r := (decide (((i_2 : Nat) : Int) < ((a_p.length : Nat) : Int)))) rfl rfl rfl ?_
    refine wpList_nil ?_
    refine then_n ?_
    refine if_d (((i_2 : Nat) : Int) < ((a_p.length : Nat) : Int)) rfl (fun ht2 => ?_) (fun ht2 => ?_)
    · replace hP := hP.1 ht2
      refine wp_skip ?_
      refine then_n ?_
      refine wp_seq ?_
      refine wp_block ?_
      refine wp_seq ?_
      refine d_reg (fun z => St ⟨w, σ, []⟩ z σ1 []) (by kernel_rfl) rfl rfl ?_
      have hS2 := hS1.drew
      refine d_take (i := 0) (v := (.slice a1 a_p.length cap1)) (l' := #[true, false, false, false, false, false, false, false, false]) rfl (by kernel_rfl) (by kernel_rfl) (by kernel_rfl) rfl rfl (fun _ _ _ h => h) hS2 (fun w hJ K hK => ?_) ?_
      · refine o_move (v := (.slice a1 a_p.length cap1)) rfl ?_
        exact ⟨rfl, hK⟩
      refine d_take (i := 1) (v := (.int .i64 ((i_2 : Nat) : Int))) (l' := #[true, true, false, false, false, false, false, false, false]) rfl (by kernel_rfl) (by kernel_rfl) (by kernel_rfl) rfl rfl (fun _ _ _ h => h) hS2 (fun w hJ K hK => ?_) ?_
      · refine o_move (v := (.int .i64 ((i_2 : Nat) : Int))) rfl ?_
        exact ⟨rfl, hK⟩
      obtain ⟨x1_, hx1⟩ := getq (l := a_p) (k := i_2) (by have := ht2; omega)
      replace hP := hP x1_ hx1
      obtain ⟨ad1, cs1, ha1, hl1, hr3, hR1, hlt1⟩ := RSl.at hr1 hx1
      cases hR1
      refine d_take (i := 2) (v := (.pointer (some (ad1.add (i_2 * 3))))) (l' := #[true, true, true, false, false, false, false, false, false]) rfl (by kernel_rfl) (by kernel_rfl) (by kernel_rfl) rfl rfl (fun _ _ _ h => h) hS2 (fun w hJ K hK => ?_) ?_
      · refine o_iaddr_slice (k := i_2) (a' := (ad1.add (i_2 * 3))) (congrArg (fun z => Value.slice z _ _) ha1) rfl rfl hlt1 Try.underlying24 Try.sizeOf28 rfl ?_
        exact ⟨rfl, hK⟩
      refine d_take (i := 3) (v := (.agg #[(.string x1_.1), (.string x1_.2.1), (.int .i64 x1_.2.2)])) (l' := #[true, true, true, true, false, false, false, false, false]) rfl (by kernel_rfl) (by kernel_rfl) (by kernel_rfl) rfl rfl (fun _ _ _ h => h) hS2 (fun w hJ K hK => ?_) ?_
      · refine o_loadA (cs := [(.string x1_.1), (.string x1_.2.1), (.int .i64 x1_.2.2)]) rfl Try.isAgg28 Try.sizeOf28 rfl (hr3.row (View.of hsub1 hJ.view)) ?_
        exact ⟨rfl, hK⟩
      refine d_take (i := 4) (v := (.slice a2 b_p.length cap2)) (l' := #[true, true, true, true, true, false, false, false, false]) rfl (by kernel_rfl) (by kernel_rfl) (by kernel_rfl) rfl rfl (fun _ _ _ h => h) hS2 (fun w hJ K hK => ?_) ?_
      · refine o_move (v := (.slice a2 b_p.length cap2)) rfl ?_
        exact ⟨rfl, hK⟩
      refine d_take (i := 5) (v := (.int .i64 ((i_2 : Nat) : Int))) (l' := #[true, true, true, true, true, true, false, false, false]) rfl (by kernel_rfl) (by kernel_rfl) (by kernel_rfl) rfl rfl (fun _ _ _ h => h) hS2 (fun w hJ K hK => ?_) ?_
      · refine o_move (v := (.int .i64 ((i_2 : Nat) : Int))) rfl ?_
        exact ⟨rfl, hK⟩
      obtain ⟨x2_, hx2, hP⟩ := hP
      obtain ⟨ad2, cs2, ha2, hl2, hr4, hR2, hlt2⟩ := RSl.at hr2 hx2
      cases hR2
      refine d_take (i := 6) (v := (.pointer (some (ad2.add (i_2 * 3))))) (l' := #[true, true, true, true, true, true, true, false, false]) rfl (by kernel_rfl) (by kernel_rfl) (by kernel_rfl) rfl rfl (fun _ _ _ h => h) hS2 (fun w hJ K hK => ?_) ?_
      · refine o_iaddr_slice (k := i_2) (a' := (ad2.add (i_2 * 3))) (congrArg (fun z => Value.slice z _ _) ha2) rfl rfl hlt2 Try.underlying24 Try.sizeOf28 rfl ?_
        exact ⟨rfl, hK⟩
      refine d_take (i := 7) (v := (.agg #[(.string x2_.1), (.string x2_.2.1), (.int .i64 x2_.2.2)])) (l' := #[true, true, true, true, true, true, true, true, false]) rfl (by kernel_rfl) (by kernel_rfl) (by kernel_rfl) rfl rfl (fun _ _ _ h => h) hS2 (fun w hJ K hK => ?_) ?_
      · refine o_loadA (cs := [(.string x2_.1), (.string x2_.2.1), (.int .i64 x2_.2.2)]) rfl Try.isAgg28 Try.sizeOf28 rfl (hr4.row (View.of hsub1 hJ.view)) ?_
        exact ⟨rfl, hK⟩
      refine d_take (i := 8) (v := (.bool (!decide (x1_.1 = x2_.1 ∧ x1_.2.1 = x2_.2.1 ∧ x1_.2.2 = x2_.2.2)))) (l' := #[true, true, true, true, true, true, true, true, true]) rfl (by kernel_rfl) (by kernel_rfl) (by kernel_rfl) rfl rfl (fun _ _ _ h => h) hS2 (fun w hJ K hK => ?_) ?_
      · refine o_neqA (r := (!decide (x1_.1 = x2_.1 ∧ x1_.2.1 = x2_.2.1 ∧ x1_.2.2 = x2_.2.2))) rfl rfl (g_28 _ _ _ _ _) (ne_28 _ _ _ _ _ _) ?_
        exact ⟨rfl, hK⟩
      refine d_done (by kernel_rfl) ?_
      refine then_n ?_
      refine if_nd (x1_.1 = x2_.1 ∧ x1_.2.1 = x2_.2.1 ∧ x1_.2.2 = x2_.2.2) rfl (fun ht3 => ?_) (fun ht3 => ?_)
      · replace hP := hP.2 ht3
        refine seq_reg ?_
        refine o_assign (v := (.bool false)) rfl ?_
        refine wpList_nil ?_
        refine then_n ?_
        refine wp_ret ?_
        refine blk_r ?_
        refine then_r ?_
        refine then_r ?_
        refine blk_r ?_
        refine then_r ?_
        refine ret1 rfl (show ev _ _ _ = (.bool false) from rfl) ?_
        exact ⟨false, rfl, hS2.done.forget, hP⟩
      · replace hP := hP.1 ht3
        refine wp_skip ?_
        refine blk_n ?_
        refine then_n ?_
        refine one_reg ?_
        refine o_move (v := (.int .i64 ((i_2 : Nat) : Int))) rfl ?_
        refine o_add (r := ((i_2 + 1 : Nat) : Int)) rfl rfl (nw (by omega) (by omega) (by have := hlen1; omega)) ?_
        refine o_assign (v := (.int .i64 ((i_2 + 1 : Nat) : Int))) rfl ?_
        refine wpList_nil ?_
        refine then_n ?_
        exact ⟨i_2 + 1, _, rfl, hP, σ1, _, (upd_in rfl (upd_in rfl (upd_in rfl rfl))), hS2, hsub1⟩
    · replace hP := hP.2 ht2
      refine wp_exit ?_
      refine then_e ?_
      refine then_e ?_
      refine blk_hit ?_
      refine then_n ?_
      refine seq_reg ?_
      refine o_assign (v := (.bool true)) rfl ?_
      refine wpList_nil ?_
      refine then_n ?_
      refine wp_ret ?_
      refine ret1 rfl (show ev _ _ _ = (.bool true) from rfl) ?_
      exact ⟨true, rfl, hS1.done.forget, hP⟩

set_option maxHeartbeats 2000000 in
theorem w_identity_other {σ : Hv} {w : World} (k_p : Lk.L3) (id_p : ByteArray) {K : ByteArray → Bool → Prop} (hV : View σ w) (hP : P_identity_other k_p id_p K) :
    Calls Try.prog 34 #[(.agg #[(.string k_p.1), (.string k_p.2.1), (.int .i64 k_p.2.2)]), (.string id_p)] w (fun e w1 => ∃ (r1 : ByteArray) (r2 : Bool), e = .returned (.tuple #[(.string r1), (.bool (r2))]) ∧ Grow [] σ w σ w1 ∧ K r1 r2) := by
  unfold P_identity_other at hP
  refine enter Try.func34 rfl rfl rfl ?_
  have hS := St.start hV
  refine seq_reg ?_
  refine o_box (cs := [(.string k_p.1), (.string k_p.2.1), (.int .i64 k_p.2.2)]) hS rfl rfl ?_
  intro b1 w1 hS1
  refine o_assign (v := (.string (⟨#[]⟩ : ByteArray))) rfl ?_
  refine o_assign (v := (.bool false)) rfl ?_
  refine wpList_nil ?_
  refine then_n ?_
  refine wp_seq ?_
  refine seq_reg ?_
  refine o_move (v := (.string id_p)) rfl ?_
  refine wpList_nil ?_
  refine then_n ?_
  refine wp_block ?_
  refine seq_reg ?_
  refine o_faddr (a' := ⟨b1, 0, none⟩) rfl Try.underlying28 rfl Try.sizeOf9 rfl ?_
  refine o_load (v := (.string k_p.1)) rfl Try.isAgg9 (hS1.cell (i := 0) rfl rfl) ?_
  refine o_eqls (r := (decide (id_p = k_p.1))) rfl rfl rfl ?_
  refine o_assign (v := (.bool (decide (id_p = k_p.1)))) rfl ?_
  refine wpList_nil ?_
  refine then_n ?_
  refine if_d (id_p = k_p.1) rfl (fun ht1 => ?_) (fun ht1 => ?_)
  · replace hP := hP.1 ht1
    refine seq_reg ?_
    refine o_faddr (a' := ⟨b1, 1, none⟩) rfl Try.underlying28 rfl Try.sizeOf9 rfl ?_
    refine o_load (v := (.string k_p.2.1)) rfl Try.isAgg9 (hS1.cell (i := 0) rfl rfl) ?_
    refine o_assign (v := (.string k_p.2.1)) rfl ?_
    refine o_assign (v := (.bool true)) rfl ?_
    refine wpList_nil ?_
    refine then_n ?_
    refine wp_ret ?_
    refine blk_r ?_
    refine then_r ?_
    refine ret2 rfl (show ev _ _ _ = (.string k_p.2.1) from rfl) (show ev _ _ _ = (.bool true) from rfl) ?_
    exact ⟨k_p.2.1, true, rfl, hS1.done.forget, hP⟩
  · replace hP := hP.2 ht1
    refine seq_reg ?_
    refine o_faddr (a' := ⟨b1, 1, none⟩) rfl Try.underlying28 rfl Try.sizeOf9 rfl ?_
    refine o_load (v := (.string k_p.2.1)) rfl Try.isAgg9 (hS1.cell (i := 0) rfl rfl) ?_
    refine o_eqls (r := (decide (id_p = k_p.2.1))) rfl rfl rfl ?_
    refine o_assign (v := (.bool (decide (id_p = k_p.2.1)))) rfl ?_
    refine wpList_nil ?_
    refine then_n ?_
    refine if_d (id_p = k_p.2.1) rfl (fun ht2 => ?_) (fun ht2 => ?_)
    · replace hP := hP.1 ht2
      refine seq_reg ?_
      refine o_faddr (a' := ⟨b1, 0, none⟩) rfl Try.underlying28 rfl Try.sizeOf9 rfl ?_
      refine o_load (v := (.string k_p.1)) rfl Try.isAgg9 (hS1.cell (i := 0) rfl rfl) ?_
      refine o_assign (v := (.string k_p.1)) rfl ?_
      refine o_assign (v := (.bool true)) rfl ?_
      refine wpList_nil ?_
      refine then_n ?_
      refine wp_ret ?_
      refine blk_r ?_
      refine then_r ?_
      refine ret2 rfl (show ev _ _ _ = (.string k_p.1) from rfl) (show ev _ _ _ = (.bool true) from rfl) ?_
      exact ⟨k_p.1, true, rfl, hS1.done.forget, hP⟩
    · replace hP := hP.2 ht2
      refine wp_skip ?_
      refine blk_n ?_
      refine then_n ?_
      refine seq_reg ?_
      refine o_assign (v := (.string (⟨#[]⟩ : ByteArray))) rfl ?_
      refine o_assign (v := (.bool false)) rfl ?_
      refine wpList_nil ?_
      refine then_n ?_
      refine wp_ret ?_
      refine ret2 rfl (show ev _ _ _ = (.string (⟨#[]⟩ : ByteArray)) from rfl) (show ev _ _ _ = (.bool false) from rfl) ?_
      exact ⟨(⟨#[]⟩ : ByteArray), false, rfl, hS1.done.forget, hP⟩

set_option maxHeartbeats 2000000 in
theorem w_identity_distances {σ : Hv} {w : World} (l_p : (List Lk.L3)) (b_p : ByteArray) (v1 : Value) {K : (ByteArray → Option Int) → Prop} (hV : View σ w) (hr1 : RSl 3 (REnc encLk) σ v1 l_p) (hP : P_identity_distances l_p b_p K) :
    Calls Try.prog 33 #[v1, (.string b_p)] w (fun e w1 => ∃ (r1 : (ByteArray → Option Int)) (b1 : Nat) (σ1 : Hv), e = .returned (.map (some b1)) ∧ Grow [] σ w σ1 w1 ∧ ((emap b1 (fun y : Int => (Value.int .i64 y)) r1).ok w1 ∧ ∀ k, (emap b1 (fun y : Int => (Value.int .i64 y)) r1).foot = some k → w.heap.size ≤ k ∧ σ1 k = none) ∧ K r1) := by
  unfold P_identity_distances at hP
  obtain ⟨a1, cap1, rfl⟩ := hr1.shape
  refine enter Try.func33 rfl rfl rfl ?_
  have hS := St.start hV
  refine seq_reg ?_
  refine o_assign (v := (.map none)) rfl ?_
  refine wpList_nil ?_
  refine then_n ?_
  refine seq_reg ?_
  refine o_emake (fun y : Int => (Value.int .i64 y)) hS ?_
  intro b2 w1 hS1
  refine o_move (v := (.string b_p)) rfl ?_
  refine o_eins (y0 := (0 : Int)) (i := 0) (ms' := [emap b2 (fun y : Int => (Value.int .i64 y)) (put (fun _ => none) b_p (0 : Int))]) hS1 rfl rfl rfl rfl Try.underlying52 Try.underlying9 rfl ?_
  intro w2 hS2
  refine o_move (v := (.map (some b2))) rfl ?_
  refine o_assign (v := (.map (some b2))) rfl ?_
  refine wpList_nil ?_
  refine then_n ?_
  refine wp_seq ?_
  refine seq_reg ?_
  refine o_move (v := (.string b_p)) rfl ?_
  refine o_bslice (cs := [(.string b_p)]) (e := 9) hS2 (fun _ => by kernel_rfl) ?_
  intro b3 w3 hS3
  refine o_assign (v := (.slice (some ⟨b3, 0, none⟩) 1 1)) rfl ?_
  refine wpList_nil ?_
  refine then_n ?_
  refine wp_block ?_
  have hS4 := hS3.asVec (i := 0) (ms' := [vec (.slice (some ⟨b3, 0, none⟩) 1 1) 9 1 1 (([b_p]).flatMap encTx), emap b2 (fun y : Int => (Value.int .i64 y)) (put (fun _ => none) b_p (0 : Int))]) (size := 1) rfl rfl (by unfold maxLen; omega) rfl
  refine lp_loop2 (fun level_3 F_2 f z => ∃ (v4 : Value) (σ1 : Hv) (g : Fr), f = (upd (upd (upd g 0 (.slice a1 l_p.length cap1)) 5 (.map (some b2))) 6 v4) ∧ St ⟨w, σ, []⟩ z σ1 [vec v4 9 1 level_3.length ((level_3).flatMap encTx), emap b2 (fun y : Int => (Value.int .i64 y)) F_2] ∧ Sub σ σ1 ∧ v4.oneCell' = true ∧ Sml level_3.length) hP ⟨(.slice (some ⟨b3, 0, none⟩) 1 1), σ, _, (upd_in rfl (upd_in rfl (upd_in rfl rfl))), hS4, (Sub.refl _), rfl, (by simp [Sml])⟩ ?_
  clear hP
  rintro level_3 F_2 Y1 hP f w4 ⟨v4, σ1, g, rfl, hS5, hsub1, ho3, hl3⟩
  refine wp_seq ?_
  refine seq_reg ?_
  refine o_move (v := v4) rfl ?_
  refine o_len_vec hS5 rfl (i := 0) rfl Try.underlying29 ?_
  have hlen1 : level_3.length ≤ 9223372036854775807 := by have := hl3; unfold Sml at this; omega
  replace hP := hP hlen1
  refine o_gtr (r := (decide ((0 : Int) < ((level_3.length : Nat) : Int)))) rfl rfl rfl ?_
  refine wpList_nil ?_
  refine then_n ?_
  refine if_d ((0 : Int) < ((level_3.length : Nat) : Int)) rfl (fun ht1 => ?_) (fun ht1 => ?_)
  · replace hP := hP.1 ht1
    refine wp_skip ?_
    refine then_n ?_
    refine wp_block ?_
    refine seq_reg ?_
    refine o_assign (v := (.slice none 0 0)) rfl ?_
    refine wpList_nil ?_
    refine then_n ?_
    refine wp_seq ?_
    refine seq_reg ?_
    refine o_move (v := v4) rfl ?_
    refine o_len_vec hS5 rfl (i := 0) rfl Try.underlying29 ?_
    refine o_move (v := (.int .i64 (0 : Int))) rfl ?_
    refine wpList_nil ?_
    refine then_n ?_
    refine wp_block ?_
    have hS6 := hS5.addNil 9 1
    have hS7 := hS6.front 1 rfl (ms' := [vec v4 9 1 level_3.length ((level_3).flatMap encTx), vec (.slice none 0 0) 9 1 0 [], emap b2 (fun y : Int => (Value.int .i64 y)) F_2]) rfl
    have hS8 := hS7.front 2 rfl (ms' := [emap b2 (fun y : Int => (Value.int .i64 y)) F_2, vec v4 9 1 level_3.length ((level_3).flatMap encTx), vec (.slice none 0 0) 9 1 0 []]) rfl
    have hS9 := hS8.front 2 rfl (ms' := [vec (.slice none 0 0) 9 1 0 [], emap b2 (fun y : Int => (Value.int .i64 y)) F_2, vec v4 9 1 level_3.length ((level_3).flatMap encTx)]) rfl
    refine lp_loop3 (fun next_3 k_3 F_4 f z => ∃ (v7 : Value) (σ2 : Hv) (g : Fr), f = (upd (upd (upd (upd (upd (upd g 0 (.slice a1 l_p.length cap1)) 5 (.map (some b2))) 7 v7) 24 v4) 25 (.int .i64 ((level_3.length : Nat) : Int))) 26 (.int .i64 ((k_3 : Nat) : Int))) ∧ St ⟨w, σ, []⟩ z σ2 [vec v7 9 1 next_3.length ((next_3).flatMap encTx), emap b2 (fun y : Int => (Value.int .i64 y)) F_4, vec v4 9 1 level_3.length ((level_3).flatMap encTx)] ∧ Sub σ1 σ2 ∧ v7.oneCell' = true ∧ Sml next_3.length) hP ⟨(.slice none 0 0), σ1, _, (upd_in rfl (upd_in rfl (upd_in rfl (upd_in rfl (upd_in rfl (upd_in rfl rfl)))))), hS9, (Sub.refl _), rfl, (by simp [Sml])⟩ ?_
    clear hP
    rintro next_3 k_3 F_4 Y2 hP f w5 ⟨v7, σ2, g, rfl, hS10, hsub2, ho6, hl6⟩
    refine seq_reg ?_
    refine o_lss (r := (decide (((k_3 : Nat) : Int) < ((level_3.length : Nat) : Int)))) rfl rfl rfl ?_
    refine wpList_nil ?_
    refine then_n ?_
    refine wp_seq ?_
    refine if_d (((k_3 : Nat) : Int) < ((level_3.length : Nat) : Int)) rfl (fun ht2 => ?_) (fun ht2 => ?_)
    · replace hP := hP.1 ht2
      refine wp_skip ?_
      refine then_n ?_
      refine wp_seq ?_
      refine wp_block ?_
      refine seq_reg ?_
      obtain ⟨x1_, hx1⟩ := getq (l := level_3) (k := k_3) (by have := ht2; omega)
      replace hP := hP x1_ hx1
      obtain ⟨g1, cp1, hv1⟩ := vec_posv (hS10.get (i := 2) rfl) (lt_of_getq hx1)
      refine o_iaddr_slice (k := k_3) (a' := ⟨g1, k_3 * 1, none⟩) hv1 rfl rfl (lt_of_getq hx1) Try.underlying29 Try.sizeOf9 (by simp [addr_lit]) ?_
      refine o_load (v := (.string x1_)) rfl Try.isAgg9 (vec_cellv encTx_len (j := 0) hv1 (hS10.get (i := 2) rfl) hx1 rfl) ?_
      refine o_assign (v := (.string x1_)) rfl ?_
      refine wpList_nil ?_
      refine then_n ?_
      refine seq_reg ?_
      refine o_move (v := (.slice a1 l_p.length cap1)) rfl ?_
      refine o_len_slice rfl Try.underlying24 ?_
      have hlen3 := RSl.len63 hr1
      replace hP := hP hlen3
      refine o_move (v := (.int .i64 (0 : Int))) rfl ?_
      refine wpList_nil ?_
      refine then_n ?_
      refine wp_block ?_
      refine lp_loop3 (fun next_6 k_6 F_6 f z => ∃ (v10 : Value) (σ3 : Hv) (g : Fr), f = (upd (upd (upd (upd (upd (upd (upd (upd (upd (upd g 0 (.slice a1 l_p.length cap1)) 5 (.map (some b2))) 7 v10) 9 (.string x1_)) 24 v4) 25 (.int .i64 ((level_3.length : Nat) : Int))) 26 (.int .i64 ((k_3 : Nat) : Int))) 30 (.slice a1 l_p.length cap1)) 31 (.int .i64 ((l_p.length : Nat) : Int))) 32 (.int .i64 ((k_6 : Nat) : Int))) ∧ St ⟨w, σ, []⟩ z σ3 [vec v10 9 1 next_6.length ((next_6).flatMap encTx), emap b2 (fun y : Int => (Value.int .i64 y)) F_6, vec v4 9 1 level_3.length ((level_3).flatMap encTx)] ∧ Sub σ2 σ3 ∧ v10.oneCell' = true ∧ Sml next_6.length) hP ⟨v7, σ2, _, (upd_in rfl (upd_in rfl (upd_in rfl (upd_in rfl (upd_in rfl (upd_in rfl (upd_in rfl (upd_in rfl (upd_in rfl (upd_in rfl rfl)))))))))), hS10, (Sub.refl _), ho6, hl6⟩ ?_
      clear hP
      rintro next_6 k_6 F_6 Y3 hP f w6 ⟨v10, σ3, g, rfl, hS11, hsub3, ho9, hl9⟩
      refine seq_reg ?_
      refine o_lss (r := (decide (((k_6 : Nat) : Int) < ((l_p.length : Nat) : Int)))) rfl rfl rfl ?_
      refine wpList_nil ?_
      refine then_n ?_
      refine wp_seq ?_
      refine if_d (((k_6 : Nat) : Int) < ((l_p.length : Nat) : Int)) rfl (fun ht3 => ?_) (fun ht3 => ?_)
      · replace hP := hP.1 ht3
        refine wp_skip ?_
        refine then_n ?_
        refine wp_seq ?_
        refine wp_block ?_
        refine seq_reg ?_
        obtain ⟨x2_, hx2⟩ := getq (l := l_p) (k := k_6) (by have := ht3; omega)
        replace hP := hP x2_ hx2
        obtain ⟨ad1, cs1, ha1, hl10, hr2, hR1, hlt1⟩ := RSl.at hr1 hx2
        cases hR1
        refine o_iaddr_slice (k := k_6) (a' := (ad1.add (k_6 * 3))) (congrArg (fun z => Value.slice z _ _) ha1) rfl rfl hlt1 Try.underlying24 Try.sizeOf28 rfl ?_
        refine o_loadA (cs := [(.string x2_.1), (.string x2_.2.1), (.int .i64 x2_.2.2)]) rfl Try.isAgg28 Try.sizeOf28 rfl (hr2.row (View.of (Sub.trans (Sub.trans hsub1 hsub2) hsub3) hS11.view)) ?_
        refine o_alloc (cs := [(.string (⟨#[]⟩ : ByteArray)), (.string (⟨#[]⟩ : ByteArray)), (.int .i64 (0 : Int))]) hS11 Try.zeroValue28 rfl ?_
        intro b4 w7 hS12
        refine o_store (T := 28) (vs := [(.string x2_.1), (.string x2_.2.1), (.int .i64 x2_.2.2)]) (cs' := [(.string x2_.1), (.string x2_.2.1), (.int .i64 x2_.2.2)]) (ms' := [blk b4 28 [(.string x2_.1), (.string x2_.2.1), (.int .i64 x2_.2.2)], vec v10 9 1 next_6.length ((next_6).flatMap encTx), emap b2 (fun y : Int => (Value.int .i64 y)) F_6, vec v4 9 1 level_3.length ((level_3).flatMap encTx)]) (i := 0) hS12 rfl rfl rfl Try.sizeOf28 rfl (ones rfl) rfl (Nat.le_of_ble_eq_true rfl) rfl rfl ?_
        intro w8 hS13
        refine wpList_nil ?_
        refine then_n ?_
        refine seq_reg ?_
        refine o_loadA (cs := [(.string x2_.1), (.string x2_.2.1), (.int .i64 x2_.2.2)]) rfl Try.isAgg28 Try.sizeOf28 rfl (blk_row (hS13.get (i := 0) rfl)) ?_
        refine o_move (v := (.string x1_)) rfl ?_
        obtain ⟨Y4, hK1, hc1⟩ := hP
        refine o_call (args := [(.agg #[(.string x2_.1), (.string x2_.2.1), (.int .i64 x2_.2.2)]), (.string x1_)]) rfl Try.call34 (Calls.mono (w_identity_other x2_ x1_ hS13.view hc1) ?_)
        rintro _ w9 ⟨r1_, r2_, rfl, hg1, hY1⟩
        refine ⟨_, rfl, ?_⟩
        have hS14 := hS13.grow hg1
        replace hP := hK1 r1_ r2_ hY1
        refine o_move (v := (.tuple #[(.string r1_), (.bool (r2_))])) rfl ?_
        refine o_extract (v := (.string r1_)) rfl rfl ?_
        refine o_extract (v := (.bool (r2_))) rfl rfl ?_
        refine o_assign (v := (.string r1_)) rfl ?_
        refine o_assign (v := (.bool (r2_))) rfl ?_
        refine wpList_nil ?_
        refine then_n ?_
        refine wp_seq ?_
        refine seq_reg ?_
        refine o_move (v := (.bool (r2_))) rfl ?_
        refine o_not (r := (!r2_)) rfl rfl ?_
        refine wpList_nil ?_
        refine then_n ?_
        refine if_nb rfl (fun ht4 => ?_) (fun ht4 => ?_)
        · replace hP := hP.2 (by simp [ht4])
          refine wp_exit ?_
          refine then_e ?_
          refine blk_hit ?_
          refine then_n ?_
          refine one_reg ?_
          refine o_add (r := ((k_6 + 1 : Nat) : Int)) rfl rfl (nw (by omega) (by omega) (by have := hlen3; omega)) ?_
          refine o_move (v := (.int .i64 ((k_6 + 1 : Nat) : Int))) rfl ?_
          refine wpList_nil ?_
          refine then_n ?_
          have hS15 := hS14.front 3 rfl (ms' := [vec v4 9 1 level_3.length ((level_3).flatMap encTx), blk b4 28 [(.string x2_.1), (.string x2_.2.1), (.int .i64 x2_.2.2)], vec v10 9 1 next_6.length ((next_6).flatMap encTx), emap b2 (fun y : Int => (Value.int .i64 y)) F_6]) rfl
          have hS16 := hS15.front 3 rfl (ms' := [emap b2 (fun y : Int => (Value.int .i64 y)) F_6, vec v4 9 1 level_3.length ((level_3).flatMap encTx), blk b4 28 [(.string x2_.1), (.string x2_.2.1), (.int .i64 x2_.2.2)], vec v10 9 1 next_6.length ((next_6).flatMap encTx)]) rfl
          have hS17 := hS16.front 3 rfl (ms' := [vec v10 9 1 next_6.length ((next_6).flatMap encTx), emap b2 (fun y : Int => (Value.int .i64 y)) F_6, vec v4 9 1 level_3.length ((level_3).flatMap encTx), blk b4 28 [(.string x2_.1), (.string x2_.2.1), (.int .i64 x2_.2.2)]]) rfl
          exact ⟨next_6, k_6 + 1, F_6, _, rfl, hP, v10, σ3, _, (upd_in rfl (upd_in rfl (upd_in rfl (upd_in rfl (upd_in rfl (upd_in rfl (upd_in rfl (upd_in rfl (upd_in rfl (upd_in rfl rfl)))))))))), (hS17.keep 3 (ms' := [vec v10 9 1 next_6.length ((next_6).flatMap encTx), emap b2 (fun y : Int => (Value.int .i64 y)) F_6, vec v4 9 1 level_3.length ((level_3).flatMap encTx)]) rfl), hsub3, ho9, hl9⟩
        · replace hP := hP.1 ht4
          refine wp_skip ?_
          refine then_n ?_
          refine seq_reg ?_
          refine o_move (v := (.map (some b2))) rfl ?_
          refine o_move (v := (.string r1_)) rfl ?_
          refine o_elook_ok (v := (.int .i64 ((F_6 r1_).getD (0 : Int)))) (r := ((F_6 r1_).isSome)) (i := 2) hS14 rfl rfl rfl Try.underlying52 Try.underlying9 Try.zeroValue3 (getD_enc (fun y : Int => (Value.int .i64 y)) _ rfl) rfl ?_
          refine o_move (v := (.tuple #[(.int .i64 ((F_6 r1_).getD (0 : Int))), (.bool (((F_6 r1_).isSome)))])) rfl ?_
          refine o_extract (v := (.int .i64 ((F_6 r1_).getD (0 : Int)))) rfl rfl ?_
          refine o_extract (v := (.bool (((F_6 r1_).isSome)))) rfl rfl ?_
          refine o_assign (v := (.int .i64 ((F_6 r1_).getD (0 : Int)))) rfl ?_
          refine o_assign (v := (.bool (((F_6 r1_).isSome)))) rfl ?_
          refine wpList_nil ?_
          refine then_n ?_
          refine seq_reg ?_
          refine o_move (v := (.bool (((F_6 r1_).isSome)))) rfl ?_
          refine o_not (r := (!((F_6 r1_).isSome))) rfl rfl ?_
          refine wpList_nil ?_
          refine then_n ?_
          refine if_nb rfl (fun ht5 => ?_) (fun ht5 => ?_)
          · replace hP := hP.2 (by simp [ht5])
            refine seq_reg ?_
            refine o_move (v := (.map (some b2))) rfl ?_
            refine o_move (v := (.string r1_)) rfl ?_
            refine o_move (v := (.map (some b2))) rfl ?_
            refine o_move (v := (.string x1_)) rfl ?_
            refine o_elook (v := (.int .i64 ((F_6 x1_).getD (0 : Int)))) (i := 2) hS14 rfl rfl rfl Try.underlying52 Try.underlying9 Try.zeroValue3 (getD_enc (fun y : Int => (Value.int .i64 y)) _ rfl) ?_
            obtain ⟨hi1, hP⟩ := hP
            refine o_add (r := (((F_6 x1_).getD (0 : Int)) + (1 : Int))) rfl rfl (nwi rfl hi1) ?_
            refine o_eput (y0 := (((F_6 x1_).getD (0 : Int)) + (1 : Int))) (i := 2) (ms' := [blk b4 28 [(.string x2_.1), (.string x2_.2.1), (.int .i64 x2_.2.2)], vec v10 9 1 next_6.length ((next_6).flatMap encTx), emap b2 (fun y : Int => (Value.int .i64 y)) (put F_6 r1_ (((F_6 x1_).getD (0 : Int)) + (1 : Int))), vec v4 9 1 level_3.length ((level_3).flatMap encTx)]) hS14 rfl rfl rfl rfl Try.underlying52 Try.underlying9 rfl ?_
            intro w10 hS18
            refine wpList_nil ?_
            refine then_n ?_
            refine one_reg ?_
            refine o_move (v := v10) rfl ?_
            refine o_move (v := (.string r1_)) rfl ?_
            refine o_bslice (cs := [(.string r1_)]) (e := 9) hS18 (fun _ => by kernel_rfl) ?_
            intro b5 w11 hS19
            obtain ⟨hsm1, hP⟩ := hP
            refine o_app (Ms := fun v11 => [blk b5 9 [(.string r1_)], blk b4 28 [(.string x2_.1), (.string x2_.2.1), (.int .i64 x2_.2.2)], vec v11 9 1 ((next_6 ++ [r1_]).length) ((next_6 ++ [r1_]).flatMap encTx), emap b2 (fun y : Int => (Value.int .i64 y)) (put F_6 r1_ (((F_6 x1_).getD (0 : Int)) + (1 : Int))), vec v4 9 1 level_3.length ((level_3).flatMap encTx)]) (k' := (next_6 ++ [r1_]).length) (xs' := (next_6 ++ [r1_]).flatMap encTx) Try.underlying29 Try.type9 rfl rfl (bytes := 16) rfl rfl (Nat.succ_pos _) hS19 rfl (q := 2) rfl rfl rfl (blk_row (hS19.get (i := 0) rfl)) (ones rfl) hsm1 (by omega) (by first | rfl | simp) (by simp [encTx]) (fun _ => rfl) ?_
            intro v11 w12 ho10 hS20
            have hS21 := hS20.drop 0 (ms' := [blk b4 28 [(.string x2_.1), (.string x2_.2.1), (.int .i64 x2_.2.2)], vec v11 9 1 ((next_6 ++ [r1_]).length) ((next_6 ++ [r1_]).flatMap encTx), emap b2 (fun y : Int => (Value.int .i64 y)) (put F_6 r1_ (((F_6 x1_).getD (0 : Int)) + (1 : Int))), vec v4 9 1 level_3.length ((level_3).flatMap encTx)]) rfl
            refine o_assign (v := v11) rfl ?_
            refine wpList_nil ?_
            refine blk_n ?_
            refine then_n ?_
            refine one_reg ?_
            refine o_add (r := ((k_6 + 1 : Nat) : Int)) rfl rfl (nw (by omega) (by omega) (by have := hlen3; omega)) ?_
            refine o_move (v := (.int .i64 ((k_6 + 1 : Nat) : Int))) rfl ?_
            refine wpList_nil ?_
            refine then_n ?_
            have hS22 := hS21.front 3 rfl (ms' := [vec v4 9 1 level_3.length ((level_3).flatMap encTx), blk b4 28 [(.string x2_.1), (.string x2_.2.1), (.int .i64 x2_.2.2)], vec v11 9 1 ((next_6 ++ [r1_]).length) ((next_6 ++ [r1_]).flatMap encTx), emap b2 (fun y : Int => (Value.int .i64 y)) (put F_6 r1_ (((F_6 x1_).getD (0 : Int)) + (1 : Int)))]) rfl
            have hS23 := hS22.front 3 rfl (ms' := [emap b2 (fun y : Int => (Value.int .i64 y)) (put F_6 r1_ (((F_6 x1_).getD (0 : Int)) + (1 : Int))), vec v4 9 1 level_3.length ((level_3).flatMap encTx), blk b4 28 [(.string x2_.1), (.string x2_.2.1), (.int .i64 x2_.2.2)], vec v11 9 1 ((next_6 ++ [r1_]).length) ((next_6 ++ [r1_]).flatMap encTx)]) rfl
            have hS24 := hS23.front 3 rfl (ms' := [vec v11 9 1 ((next_6 ++ [r1_]).length) ((next_6 ++ [r1_]).flatMap encTx), emap b2 (fun y : Int => (Value.int .i64 y)) (put F_6 r1_ (((F_6 x1_).getD (0 : Int)) + (1 : Int))), vec v4 9 1 level_3.length ((level_3).flatMap encTx), blk b4 28 [(.string x2_.1), (.string x2_.2.1), (.int .i64 x2_.2.2)]]) rfl
            exact ⟨next_6 ++ [r1_], k_6 + 1, put F_6 r1_ (((F_6 x1_).getD (0 : Int)) + (1 : Int)), _, rfl, hP, v11, σ3, _, (upd_in rfl (upd_in rfl (upd_in rfl (upd_in rfl (upd_in rfl (upd_in rfl (upd_in rfl (upd_in rfl (upd_in rfl (upd_in rfl rfl)))))))))), (hS24.keep 3 (ms' := [vec v11 9 1 ((next_6 ++ [r1_]).length) ((next_6 ++ [r1_]).flatMap encTx), emap b2 (fun y : Int => (Value.int .i64 y)) (put F_6 r1_ (((F_6 x1_).getD (0 : Int)) + (1 : Int))), vec v4 9 1 level_3.length ((level_3).flatMap encTx)]) rfl), hsub3, ho10, hsm1⟩
          · replace hP := hP.1 ht5
            refine wp_skip ?_
            refine blk_n ?_
            refine then_n ?_
            refine one_reg ?_
            refine o_add (r := ((k_6 + 1 : Nat) : Int)) rfl rfl (nw (by omega) (by omega) (by have := hlen3; omega)) ?_
            refine o_move (v := (.int .i64 ((k_6 + 1 : Nat) : Int))) rfl ?_
            refine wpList_nil ?_
            refine then_n ?_
            have hS25 := hS14.front 3 rfl (ms' := [vec v4 9 1 level_3.length ((level_3).flatMap encTx), blk b4 28 [(.string x2_.1), (.string x2_.2.1), (.int .i64 x2_.2.2)], vec v10 9 1 next_6.length ((next_6).flatMap encTx), emap b2 (fun y : Int => (Value.int .i64 y)) F_6]) rfl
            have hS26 := hS25.front 3 rfl (ms' := [emap b2 (fun y : Int => (Value.int .i64 y)) F_6, vec v4 9 1 level_3.length ((level_3).flatMap encTx), blk b4 28 [(.string x2_.1), (.string x2_.2.1), (.int .i64 x2_.2.2)], vec v10 9 1 next_6.length ((next_6).flatMap encTx)]) rfl
            have hS27 := hS26.front 3 rfl (ms' := [vec v10 9 1 next_6.length ((next_6).flatMap encTx), emap b2 (fun y : Int => (Value.int .i64 y)) F_6, vec v4 9 1 level_3.length ((level_3).flatMap encTx), blk b4 28 [(.string x2_.1), (.string x2_.2.1), (.int .i64 x2_.2.2)]]) rfl
            exact ⟨next_6, k_6 + 1, F_6, _, rfl, hP, v10, σ3, _, (upd_in rfl (upd_in rfl (upd_in rfl (upd_in rfl (upd_in rfl (upd_in rfl (upd_in rfl (upd_in rfl (upd_in rfl (upd_in rfl rfl)))))))))), (hS27.keep 3 (ms' := [vec v10 9 1 next_6.length ((next_6).flatMap encTx), emap b2 (fun y : Int => (Value.int .i64 y)) F_6, vec v4 9 1 level_3.length ((level_3).flatMap encTx)]) rfl), hsub3, ho9, hl9⟩
      · replace hP := hP.2 ht3
        refine wp_exit ?_
        refine then_e ?_
        refine then_e ?_
        refine blk_hit ?_
        refine blk_n ?_
        refine then_n ?_
        refine one_reg ?_
        refine o_add (r := ((k_3 + 1 : Nat) : Int)) rfl rfl (nw (by omega) (by omega) (by have := hlen1; omega)) ?_
        refine o_move (v := (.int .i64 ((k_3 + 1 : Nat) : Int))) rfl ?_
        refine wpList_nil ?_
        refine then_n ?_
        exact ⟨next_6, k_3 + 1, F_6, _, rfl, hP, v10, σ3, _, (upd_in rfl (upd_in rfl (upd_in rfl (upd_in rfl (upd_in rfl (upd_in rfl rfl)))))), hS11, (Sub.trans hsub2 hsub3), ho9, hl9⟩
    · replace hP := hP.2 ht2
      refine wp_exit ?_
      refine then_e ?_
      refine then_e ?_
      refine blk_hit ?_
      refine then_n ?_
      refine one_reg ?_
      refine o_move (v := v7) rfl ?_
      refine o_assign (v := v7) rfl ?_
      refine wpList_nil ?_
      refine blk_n ?_
      refine then_n ?_
      exact ⟨next_3, F_4, _, rfl, hP, v7, σ2, _, (upd_in rfl (upd_in rfl (upd_in rfl rfl))), (hS10.keep 2 (ms' := [vec v7 9 1 next_3.length ((next_3).flatMap encTx), emap b2 (fun y : Int => (Value.int .i64 y)) F_4]) rfl), (Sub.trans hsub1 hsub2), ho6, hl6⟩
  · replace hP := hP.2 ht1
    refine wp_exit ?_
    refine then_e ?_
    refine then_e ?_
    refine blk_hit ?_
    refine then_n ?_
    refine seq_reg ?_
    refine o_move (v := (.map (some b2))) rfl ?_
    refine o_assign (v := (.map (some b2))) rfl ?_
    refine wpList_nil ?_
    refine then_n ?_
    refine wp_ret ?_
    refine ret1 rfl (show ev _ _ _ = (.map (some b2)) from rfl) ?_
    exact ⟨F_2, b2, σ1, rfl, hS5.done, hS5.own1 (i := 1) rfl, hP⟩

set_option maxHeartbeats 2000000 in
theorem w_identity_Path {σ : Hv} {w : World} (l_p : (List Lk.L3)) (a_p : ByteArray) (b_p : ByteArray) (v1 : Value) {K : (List Lk.L3) → Bool → Prop} (hV : View σ w) (hr1 : RSl 3 (REnc encLk) σ v1 l_p) (hP : P_identity_Path l_p a_p b_p K) :
    Calls Try.prog 16 #[v1, (.string a_p), (.string b_p)] w (fun e w1 => ∃ (r1 : (List Lk.L3)) (r2 : Bool) (v2 : Value), e = .returned (.tuple #[v2, (.bool (r2))]) ∧ Grow [] σ w σ w1 ∧ Sml r1.length ∧ ((vec v2 28 3 r1.length ((r1).flatMap encLk)).ok w1 ∧ ∀ k, (vec v2 28 3 r1.length ((r1).flatMap encLk)).foot = some k → w.heap.size ≤ k ∧ σ k = none) ∧ K r1 r2) := by
  unfold P_identity_Path at hP
  obtain ⟨a1, cap1, rfl⟩ := hr1.shape
  refine enter Try.func16 rfl rfl rfl ?_
  have hS := St.start hV
  refine seq_reg ?_
  refine o_assign (v := (.slice none 0 0)) rfl ?_
  refine o_assign (v := (.bool false)) rfl ?_
  refine wpList_nil ?_
  refine then_n ?_
  refine wp_scope_straight ?_
  refine seq_reg ?_
  refine o_move (v := (.slice a1 l_p.length cap1)) rfl ?_
  refine o_move (v := (.string b_p)) rfl ?_
  obtain ⟨Y1, hK1, hc1⟩ := hP
  refine o_call (args := [(.slice a1 l_p.length cap1), (.string b_p)]) rfl Try.call33 (Calls.mono (w_identity_distances l_p b_p (.slice a1 l_p.length cap1) hS.view hr1 hc1) ?_)
  rintro _ w1 ⟨r1_, b1, σ1, rfl, hg1, ho1, hY1⟩
  refine ⟨_, rfl, ?_⟩
  have hS1 := hS.growAdd hg1 (o := emap b1 (fun y : Int => (Value.int .i64 y)) r1_) ho1
  replace hP := hK1 r1_ hY1
  refine o_assign (v := (.map (some b1))) rfl ?_
  refine wpList_nil ?_
  refine then_n ?_
  refine wp_seq ?_
  refine seq_reg ?_
  refine o_move (v := (.map (some b1))) rfl ?_
  refine o_move (v := (.string a_p)) rfl ?_
  refine o_elook_ok (v := (.int .i64 ((r1_ a_p).getD (0 : Int)))) (r := ((r1_ a_p).isSome)) (i := 0) hS1 rfl rfl rfl Try.underlying52 Try.underlying9 Try.zeroValue3 (getD_enc (fun y : Int => (Value.int .i64 y)) _ rfl) rfl ?_
  refine o_move (v := (.tuple #[(.int .i64 ((r1_ a_p).getD (0 : Int))), (.bool (((r1_ a_p).isSome)))])) rfl ?_
  refine o_extract (v := (.int .i64 ((r1_ a_p).getD (0 : Int)))) rfl rfl ?_
  refine o_extract (v := (.bool (((r1_ a_p).isSome)))) rfl rfl ?_
  refine o_assign (v := (.int .i64 ((r1_ a_p).getD (0 : Int)))) rfl ?_
  refine o_assign (v := (.bool (((r1_ a_p).isSome)))) rfl ?_
  refine wpList_nil ?_
  refine then_n ?_
  refine seq_reg ?_
  refine o_move (v := (.bool (((r1_ a_p).isSome)))) rfl ?_
  refine o_not (r := (!((r1_ a_p).isSome))) rfl rfl ?_
  refine wpList_nil ?_
  refine then_n ?_
  refine if_nb rfl (fun ht1 => ?_) (fun ht1 => ?_)
  · replace hP := hP.2 (by simp [ht1])
    refine seq_reg ?_
    refine o_assign (v := (.slice none 0 0)) rfl ?_
    refine o_assign (v := (.bool false)) rfl ?_
    refine wpList_nil ?_
    refine then_n ?_
    refine wp_ret ?_
    refine then_r ?_
    refine sc_r ?_
    refine ret2 rfl (show ev _ _ _ = (.slice none 0 0) from rfl) (show ev _ _ _ = (.bool false) from rfl) ?_
    have hS2 := hS1.addNil 28 3
    exact ⟨[], false, (.slice none 0 0), rfl, hS2.done.forget, (by simp [Sml]), hS2.own0 (i := 0) rfl, hP⟩
  · replace hP := hP.1 ht1
    refine wp_skip ?_
    refine then_n ?_
    refine seq_reg ?_
    refine o_assign (v := (.slice none 0 0)) rfl ?_
    refine wpList_nil ?_
    refine then_n ?_
    refine wp_seq ?_
    refine wp_label ?_
    refine then_n ?_
    refine wp_seq ?_
    refine wp_block ?_
    have hS3 := hS1.addNil 28 3
    refine lp_loop2 (fun a_2 out_2 f z => ∃ (v4 : Value) (σ2 : Hv) (g : Fr), f = (upd (upd (upd (upd (upd g 0 (.slice a1 l_p.length cap1)) 1 (.string a_2)) 2 (.string b_p)) 8 (.map (some b1))) 11 v4) ∧ St ⟨w, σ, []⟩ z σ2 [vec v4 28 3 out_2.length ((out_2).flatMap encLk), emap b1 (fun y : Int => (Value.int .i64 y)) r1_] ∧ Sub σ1 σ2 ∧ v4.oneCell' = true ∧ Sml out_2.length) hP ⟨(.slice none 0 0), σ1, _, (upd_in rfl (upd_in rfl (upd_in rfl (upd_in rfl (upd_in rfl rfl))))), hS3, (Sub.refl _), rfl, (by simp [Sml])⟩ ?_
    clear hP
    rintro a_2 out_2 Y2 hP f w2 ⟨v4, σ2, g, rfl, hS4, hsub1, ho3, hl2⟩
    refine wp_seq ?_
    refine seq_reg ?_
    refine o_move (v := (.string a_2)) rfl ?_
    refine o_move (v := (.string b_p)) rfl ?_
    refine o_neqs (r := (!decide (a_2 = b_p))) rfl rfl rfl ?_
    refine wpList_nil ?_
    refine then_n ?_
    refine if_nd (a_2 = b_p) rfl (fun ht2 => ?_) (fun ht2 => ?_)
    · replace hP := hP.2 ht2
      refine wp_skip ?_
      refine then_n ?_
      refine wp_block ?_
      refine wp_seq ?_
      refine seq_reg ?_
      refine o_move (v := (.slice a1 l_p.length cap1)) rfl ?_
      refine o_len_slice rfl Try.underlying24 ?_
      have hlen1 := RSl.len63 hr1
      replace hP := hP hlen1
      refine o_move (v := (.int .i64 (0 : Int))) rfl ?_
      refine wpList_nil ?_
      refine then_n ?_
      refine wp_block ?_
      refine lp_loop3 (fun a_4 out_4 k_2 f z => ∃ (v6 : Value) (σ3 : Hv) (g : Fr), f = (upd (upd (upd (upd (upd (upd (upd (upd g 0 (.slice a1 l_p.length cap1)) 1 (.string a_4)) 2 (.string b_p)) 8 (.map (some b1))) 11 v6) 32 (.slice a1 l_p.length cap1)) 33 (.int .i64 ((l_p.length : Nat) : Int))) 34 (.int .i64 ((k_2 : Nat) : Int))) ∧ St ⟨w, σ, []⟩ z σ3 [vec v6 28 3 out_4.length ((out_4).flatMap encLk), emap b1 (fun y : Int => (Value.int .i64 y)) r1_] ∧ Sub σ2 σ3 ∧ v6.oneCell' = true ∧ Sml out_4.length) hP ⟨v4, σ2, _, (upd_in rfl (upd_in rfl (upd_in rfl (upd_in rfl (upd_in rfl (upd_in rfl (upd_in rfl (upd_in rfl rfl)))))))), hS4, (Sub.refl _), ho3, hl2⟩ ?_
      clear hP
      rintro a_4 out_4 k_2 Y3 hP f w3 ⟨v6, σ3, g, rfl, hS5, hsub2, ho5, hl4⟩
      refine seq_reg ?_
      refine o_lss (r := (decide (((k_2 : Nat) : Int) < ((l_p.length : Nat) : Int)))) rfl rfl rfl ?_
      refine wpList_nil ?_
      refine then_n ?_
      refine wp_seq ?_
      refine if_d (((k_2 : Nat) : Int) < ((l_p.length : Nat) : Int)) rfl (fun ht3 => ?_) (fun ht3 => ?_)
      · replace hP := hP.1 ht3
        refine wp_skip ?_
        refine then_n ?_
        refine wp_seq ?_
        refine wp_block ?_
        refine seq_reg ?_
        obtain ⟨x1_, hx1⟩ := getq (l := l_p) (k := k_2) (by have := ht3; omega)
        replace hP := hP x1_ hx1
        obtain ⟨ad1, cs1, ha1, hl5, hr3, hR1, hlt1⟩ := RSl.at hr1 hx1
        cases hR1
        refine o_iaddr_slice (k := k_2) (a' := (ad1.add (k_2 * 3))) (congrArg (fun z => Value.slice z _ _) ha1) rfl rfl hlt1 Try.underlying24 Try.sizeOf28 rfl ?_
        refine o_loadA (cs := [(.string x1_.1), (.string x1_.2.1), (.int .i64 x1_.2.2)]) rfl Try.isAgg28 Try.sizeOf28 rfl (hr3.row (View.of (Sub.trans (Sub.trans hg1.sub hsub1) hsub2) hS5.view)) ?_
        refine o_alloc (cs := [(.string (⟨#[]⟩ : ByteArray)), (.string (⟨#[]⟩ : ByteArray)), (.int .i64 (0 : Int))]) hS5 Try.zeroValue28 rfl ?_
        intro b2 w4 hS6
        refine o_store (T := 28) (vs := [(.string x1_.1), (.string x1_.2.1), (.int .i64 x1_.2.2)]) (cs' := [(.string x1_.1), (.string x1_.2.1), (.int .i64 x1_.2.2)]) (ms' := [blk b2 28 [(.string x1_.1), (.string x1_.2.1), (.int .i64 x1_.2.2)], vec v6 28 3 out_4.length ((out_4).flatMap encLk), emap b1 (fun y : Int => (Value.int .i64 y)) r1_]) (i := 0) hS6 rfl rfl rfl Try.sizeOf28 rfl (ones rfl) rfl (Nat.le_of_ble_eq_true rfl) rfl rfl ?_
        intro w5 hS7
        refine wpList_nil ?_
        refine then_n ?_
        refine seq_reg ?_
        refine o_loadA (cs := [(.string x1_.1), (.string x1_.2.1), (.int .i64 x1_.2.2)]) rfl Try.isAgg28 Try.sizeOf28 rfl (blk_row (hS7.get (i := 0) rfl)) ?_
        refine o_move (v := (.string a_4)) rfl ?_
        obtain ⟨Y4, hK2, hc2⟩ := hP
        refine o_call (args := [(.agg #[(.string x1_.1), (.string x1_.2.1), (.int .i64 x1_.2.2)]), (.string a_4)]) rfl Try.call34 (Calls.mono (w_identity_other x1_ a_4 hS7.view hc2) ?_)
        rintro _ w6 ⟨r2_, r3_, rfl, hg2, hY2⟩
        refine ⟨_, rfl, ?_⟩
        have hS8 := hS7.grow hg2
        replace hP := hK2 r2_ r3_ hY2
        refine o_move (v := (.tuple #[(.string r2_), (.bool (r3_))])) rfl ?_
        refine o_extract (v := (.string r2_)) rfl rfl ?_
        refine o_extract (v := (.bool (r3_))) rfl rfl ?_
        refine o_assign (v := (.string r2_)) rfl ?_
        refine o_assign (v := (.bool (r3_))) rfl ?_
        refine wpList_nil ?_
        refine then_n ?_
        refine wp_seq ?_
        refine seq_reg ?_
        refine o_move (v := (.bool (r3_))) rfl ?_
        refine o_not (r := (!r3_)) rfl rfl ?_
        refine wpList_nil ?_
        refine then_n ?_
        refine if_nb rfl (fun ht4 => ?_) (fun ht4 => ?_)
        · replace hP := hP.2 (by simp [ht4])
          refine wp_exit ?_
          refine then_e ?_
          refine blk_hit ?_
          refine then_n ?_
          refine one_reg ?_
          refine o_add (r := ((k_2 + 1 : Nat) : Int)) rfl rfl (nw (by omega) (by omega) (by have := hlen1; omega)) ?_
          refine o_move (v := (.int .i64 ((k_2 + 1 : Nat) : Int))) rfl ?_
          refine wpList_nil ?_
          refine then_n ?_
          have hS9 := hS8.front 2 rfl (ms' := [emap b1 (fun y : Int => (Value.int .i64 y)) r1_, blk b2 28 [(.string x1_.1), (.string x1_.2.1), (.int .i64 x1_.2.2)], vec v6 28 3 out_4.length ((out_4).flatMap encLk)]) rfl
          have hS10 := hS9.front 2 rfl (ms' := [vec v6 28 3 out_4.length ((out_4).flatMap encLk), emap b1 (fun y : Int => (Value.int .i64 y)) r1_, blk b2 28 [(.string x1_.1), (.string x1_.2.1), (.int .i64 x1_.2.2)]]) rfl
          exact ⟨a_4, out_4, k_2 + 1, _, rfl, hP, v6, σ3, _, (upd_in rfl (upd_in rfl (upd_in rfl (upd_in rfl (upd_in rfl (upd_in rfl (upd_in rfl (upd_in rfl rfl)))))))), (hS10.keep 2 (ms' := [vec v6 28 3 out_4.length ((out_4).flatMap encLk), emap b1 (fun y : Int => (Value.int .i64 y)) r1_]) rfl), hsub2, ho5, hl4⟩
        · replace hP := hP.1 ht4
          refine wp_skip ?_
          refine then_n ?_
          refine seq_reg ?_
          refine o_move (v := (.map (some b1))) rfl ?_
          refine o_move (v := (.string r2_)) rfl ?_
          refine o_elook_ok (v := (.int .i64 ((r1_ r2_).getD (0 : Int)))) (r := ((r1_ r2_).isSome)) (i := 2) hS8 rfl rfl rfl Try.underlying52 Try.underlying9 Try.zeroValue3 (getD_enc (fun y : Int => (Value.int .i64 y)) _ rfl) rfl ?_
          refine o_move (v := (.tuple #[(.int .i64 ((r1_ r2_).getD (0 : Int))), (.bool (((r1_ r2_).isSome)))])) rfl ?_
          refine o_extract (v := (.int .i64 ((r1_ r2_).getD (0 : Int)))) rfl rfl ?_
          refine o_extract (v := (.bool (((r1_ r2_).isSome)))) rfl rfl ?_
          refine o_assign (v := (.int .i64 ((r1_ r2_).getD (0 : Int)))) rfl ?_
          refine o_assign (v := (.bool (((r1_ r2_).isSome)))) rfl ?_
          refine wpList_nil ?_
          refine then_n ?_
          refine seq_reg ?_
          refine o_move (v := (.bool (((r1_ r2_).isSome)))) rfl ?_
          rcases Bool.eq_false_or_eq_true (((r1_ r2_).isSome)) with hb1 | hb1
          · replace hP := hP.1 hb1
            refine o_move (v := (.bool true)) (congrArg Value.bool hb1) ?_
            refine o_on rfl rfl ?_
            refine o_move (v := (.int .i64 ((r1_ r2_).getD (0 : Int)))) rfl ?_
            refine o_on rfl rfl ?_
            refine o_move (v := (.map (some b1))) rfl ?_
            refine o_on rfl rfl ?_
            refine o_move (v := (.string a_4)) rfl ?_
            refine o_on rfl rfl ?_
            refine o_elook (v := (.int .i64 ((r1_ a_4).getD (0 : Int)))) (i := 2) hS8 rfl rfl rfl Try.underlying52 Try.underlying9 Try.zeroValue3 (getD_enc (fun y : Int => (Value.int .i64 y)) _ rfl) ?_
            refine o_on rfl rfl ?_
            obtain ⟨hi1, hP⟩ := hP
            refine o_sub (r := (((r1_ a_4).getD (0 : Int)) - (1 : Int))) rfl rfl (nwi rfl hi1) ?_
            refine o_on rfl rfl ?_
            refine o_eql (r := (decide (((r1_ r2_).getD (0 : Int)) = (((r1_ a_4).getD (0 : Int)) - (1 : Int))))) rfl rfl rfl ?_
            refine o_pick_t (v := (.bool (decide (((r1_ r2_).getD (0 : Int)) = (((r1_ a_4).getD (0 : Int)) - (1 : Int)))))) rfl rfl ?_
            refine wpList_nil ?_
            refine then_n ?_
            refine if_d (((r1_ r2_).getD (0 : Int)) = (((r1_ a_4).getD (0 : Int)) - (1 : Int))) rfl (fun ht5 => ?_) (fun ht5 => ?_)
            · replace hP := hP.1 ht5
              refine seq_reg ?_
              refine o_move (v := v6) rfl ?_
              refine o_loadA (cs := [(.string x1_.1), (.string x1_.2.1), (.int .i64 x1_.2.2)]) rfl Try.isAgg28 Try.sizeOf28 rfl (blk_row (hS8.get (i := 0) rfl)) ?_
              refine o_bslice (cs := [(.string x1_.1), (.string x1_.2.1), (.int .i64 x1_.2.2)]) (e := 28) hS8 (fun _ => by kernel_rfl) ?_
              intro b3 w7 hS11
              obtain ⟨hsm1, hP⟩ := hP
              refine o_app (Ms := fun v7 => [blk b3 28 [(.string x1_.1), (.string x1_.2.1), (.int .i64 x1_.2.2)], blk b2 28 [(.string x1_.1), (.string x1_.2.1), (.int .i64 x1_.2.2)], vec v7 28 3 ((out_4 ++ [x1_]).length) ((out_4 ++ [x1_]).flatMap encLk), emap b1 (fun y : Int => (Value.int .i64 y)) r1_]) (k' := (out_4 ++ [x1_]).length) (xs' := (out_4 ++ [x1_]).flatMap encLk) Try.underlying24 Try.type28 rfl rfl (bytes := 40) rfl rfl (Nat.succ_pos _) hS11 rfl (q := 2) rfl rfl rfl (blk_row (hS11.get (i := 0) rfl)) (ones rfl) hsm1 (by omega) (by first | rfl | simp) (by simp [encLk]) (fun _ => rfl) ?_
              intro v7 w8 ho6 hS12
              have hS13 := hS12.drop 0 (ms' := [blk b2 28 [(.string x1_.1), (.string x1_.2.1), (.int .i64 x1_.2.2)], vec v7 28 3 ((out_4 ++ [x1_]).length) ((out_4 ++ [x1_]).flatMap encLk), emap b1 (fun y : Int => (Value.int .i64 y)) r1_]) rfl
              refine o_assign (v := v7) rfl ?_
              refine wpList_nil ?_
              refine then_n ?_
              refine seq_reg ?_
              refine o_move (v := (.string r2_)) rfl ?_
              refine o_assign (v := (.string r2_)) rfl ?_
              refine wpList_nil ?_
              refine then_n ?_
              refine wp_exit ?_
              refine blk_miss rfl ?_
              refine then_e ?_
              refine then_e ?_
              refine blk_miss rfl ?_
              refine then_e ?_
              refine blk_hit ?_
              refine then_n ?_
              have hS14 := hS13.front 2 rfl (ms' := [emap b1 (fun y : Int => (Value.int .i64 y)) r1_, blk b2 28 [(.string x1_.1), (.string x1_.2.1), (.int .i64 x1_.2.2)], vec v7 28 3 ((out_4 ++ [x1_]).length) ((out_4 ++ [x1_]).flatMap encLk)]) rfl
              have hS15 := hS14.front 2 rfl (ms' := [vec v7 28 3 ((out_4 ++ [x1_]).length) ((out_4 ++ [x1_]).flatMap encLk), emap b1 (fun y : Int => (Value.int .i64 y)) r1_, blk b2 28 [(.string x1_.1), (.string x1_.2.1), (.int .i64 x1_.2.2)]]) rfl
              exact ⟨r2_, out_4 ++ [x1_], _, rfl, hP, v7, σ3, _, (upd_in rfl (upd_in rfl (upd_in rfl (upd_in rfl (upd_in rfl rfl))))), (hS15.keep 2 (ms' := [vec v7 28 3 ((out_4 ++ [x1_]).length) ((out_4 ++ [x1_]).flatMap encLk), emap b1 (fun y : Int => (Value.int .i64 y)) r1_]) rfl), (Sub.trans hsub1 hsub2), ho6, hsm1⟩
            · replace hP := hP.2 ht5
              refine wp_skip ?_
              refine blk_n ?_
              refine then_n ?_
              refine one_reg ?_
              refine o_add (r := ((k_2 + 1 : Nat) : Int)) rfl rfl (nw (by omega) (by omega) (by have := hlen1; omega)) ?_
              refine o_move (v := (.int .i64 ((k_2 + 1 : Nat) : Int))) rfl ?_
              refine wpList_nil ?_
              refine then_n ?_
              have hS16 := hS8.front 2 rfl (ms' := [emap b1 (fun y : Int => (Value.int .i64 y)) r1_, blk b2 28 [(.string x1_.1), (.string x1_.2.1), (.int .i64 x1_.2.2)], vec v6 28 3 out_4.length ((out_4).flatMap encLk)]) rfl
              have hS17 := hS16.front 2 rfl (ms' := [vec v6 28 3 out_4.length ((out_4).flatMap encLk), emap b1 (fun y : Int => (Value.int .i64 y)) r1_, blk b2 28 [(.string x1_.1), (.string x1_.2.1), (.int .i64 x1_.2.2)]]) rfl
              exact ⟨a_4, out_4, k_2 + 1, _, rfl, hP, v6, σ3, _, (upd_in rfl (upd_in rfl (upd_in rfl (upd_in rfl (upd_in rfl (upd_in rfl (upd_in rfl (upd_in rfl rfl)))))))), (hS17.keep 2 (ms' := [vec v6 28 3 out_4.length ((out_4).flatMap encLk), emap b1 (fun y : Int => (Value.int .i64 y)) r1_]) rfl), hsub2, ho5, hl4⟩
          · replace hP := hP.2 (by simp [hb1])
            refine o_move (v := (.bool false)) (congrArg Value.bool hb1) ?_
            refine o_off rfl rfl ?_
            refine o_off rfl rfl ?_
            refine o_off rfl rfl ?_
            refine o_off rfl rfl ?_
            refine o_off rfl rfl ?_
            refine o_off rfl rfl ?_
            refine o_pick_f (v := (.bool false)) rfl rfl ?_
            refine wpList_nil ?_
            refine then_n ?_
            refine if_f rfl ?_
            refine wp_skip ?_
            refine blk_n ?_
            refine then_n ?_
            refine one_reg ?_
            refine o_add (r := ((k_2 + 1 : Nat) : Int)) rfl rfl (nw (by omega) (by omega) (by have := hlen1; omega)) ?_
            refine o_move (v := (.int .i64 ((k_2 + 1 : Nat) : Int))) rfl ?_
            refine wpList_nil ?_
            refine then_n ?_
            have hS18 := hS8.front 2 rfl (ms' := [emap b1 (fun y : Int => (Value.int .i64 y)) r1_, blk b2 28 [(.string x1_.1), (.string x1_.2.1), (.int .i64 x1_.2.2)], vec v6 28 3 out_4.length ((out_4).flatMap encLk)]) rfl
            have hS19 := hS18.front 2 rfl (ms' := [vec v6 28 3 out_4.length ((out_4).flatMap encLk), emap b1 (fun y : Int => (Value.int .i64 y)) r1_, blk b2 28 [(.string x1_.1), (.string x1_.2.1), (.int .i64 x1_.2.2)]]) rfl
            exact ⟨a_4, out_4, k_2 + 1, _, rfl, hP, v6, σ3, _, (upd_in rfl (upd_in rfl (upd_in rfl (upd_in rfl (upd_in rfl (upd_in rfl (upd_in rfl (upd_in rfl rfl)))))))), (hS19.keep 2 (ms' := [vec v6 28 3 out_4.length ((out_4).flatMap encLk), emap b1 (fun y : Int => (Value.int .i64 y)) r1_]) rfl), hsub2, ho5, hl4⟩
      · replace hP := hP.2 ht3
        refine wp_exit ?_
        refine then_e ?_
        refine then_e ?_
        refine blk_hit ?_
        refine then_n ?_
        refine wp_exit ?_
        refine blk_miss rfl ?_
        refine then_e ?_
        refine blk_hit ?_
        refine then_n ?_
        refine seq_reg ?_
        refine o_move (v := v6) rfl ?_
        refine o_assign (v := v6) rfl ?_
        refine o_assign (v := (.bool true)) rfl ?_
        refine wpList_nil ?_
        refine then_n ?_
        refine wp_ret ?_
        refine sc_r ?_
        refine ret2 rfl (show ev _ _ _ = v6 from rfl) (show ev _ _ _ = (.bool true) from rfl) ?_
        exact ⟨out_4, true, v6, rfl, hS5.done.forget, hl4, hS5.own0 (i := 0) rfl, hP⟩
    · replace hP := hP.1 ht2
      refine wp_exit ?_
      refine then_e ?_
      refine then_e ?_
      refine blk_hit ?_
      refine then_n ?_
      refine seq_reg ?_
      refine o_move (v := v4) rfl ?_
      refine o_assign (v := v4) rfl ?_
      refine o_assign (v := (.bool true)) rfl ?_
      refine wpList_nil ?_
      refine then_n ?_
      refine wp_ret ?_
      refine sc_r ?_
      refine ret2 rfl (show ev _ _ _ = v4 from rfl) (show ev _ _ _ = (.bool true) from rfl) ?_
      exact ⟨out_2, true, v4, rfl, hS4.done.forget, hl2, hS4.own0 (i := 0) rfl, hP⟩

end Go.Proofs.Ytehmnkholidanaa
