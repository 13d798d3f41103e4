/- A call does what its plain meaning says, and leaves the memory that was there as it was: law10_GraphAfter. -/
import Derived.Test.YtegcjfidfinogaaRows
import Derived.Test.YtegcjfidfinogaaFlLift
import Derived.Test.YtegcjfidfinogaaPuLAfter
import Derived.KernelRfl
import Derived.Test.YtegcjfidfinogaaLwC
namespace Go.Proofs.Ytegcjfidfinogaa
open Go Go.RowKit Go.Fl
set_option maxHeartbeats 2000000 in
theorem w_law10_GraphAfter {σ : Hv} {w : World} (n_p : Int) (turn_p : Int) (codes_p : (List UInt8)) (v1 : Value) {K : Bool → Prop} (hV : View σ w) (hr1 : RSl 1 RU8 σ v1 codes_p) (hP : P_law10_GraphAfter n_p turn_p codes_p K) :
    Calls Try.prog 4 #[(.int .i64 n_p), (.int .i64 turn_p), v1] w (fun e w1 => ∃ (r1 : Bool), e = .returned (.bool (r1)) ∧ Grow [] σ w σ w1 ∧ K r1) := by
 unfold P_law10_GraphAfter at hP
 obtain ⟨a1, cap1, rfl⟩ := hr1.shape
 refine enter Try.func4 rfl rfl rfl ?_
 have hS := St.start hV
 refine seq_reg (o_assign (v := (.bool false)) rfl (wpList_nil (then_n (wp_seq (seq_reg ?_)))))
 obtain ⟨Y1, hK1, hc1⟩ := hP
 refine o_call (args := []) rfl Try.call7 (Calls.mono (w_law10_awake hS.view hc1) ?_)
 rintro _ w1 ⟨r1_, rfl, hg1, hY1⟩
 refine ⟨_, rfl, ?_⟩
 have hS1 := hS.grow hg1
 replace hP := hK1 r1_ hY1
 refine o_not (r := (!r1_)) rfl rfl (wpList_nil (then_n ?_))
 refine if_nb rfl (fun ht1 => ?_) (fun ht1 => ?_)
 ·
  replace hP := hP.2 (by first | (rw [ht1]; exact Bool.false_ne_true) | simp [ht1])
  refine seq_reg (o_assign (v := (.bool false)) rfl (wpList_nil (then_n (wp_ret (then_r (ret1 rfl (show ev _ _ _ = (.bool false) from rfl) ?_))))))
  exact ⟨false, rfl, hS1.done.forget, hP⟩
 ·
  replace hP := hP.1 ht1
  refine wp_skip (then_n (seq_reg (o_move (v := (.int .i64 n_p)) rfl (o_move (v := (.int .i64 turn_p)) rfl ?_))))
  obtain ⟨Y2, hK2, hc2⟩ := hP
  refine o_call (args := [(.int .i64 n_p), (.int .i64 turn_p)]) rfl Try.call8 (Calls.mono (w_law10_nodes n_p turn_p hS1.view hc2) ?_)
  rintro _ w2 ⟨r2_, v2, rfl, hg2, hl1, ho1, hY2⟩
  refine ⟨_, rfl, ?_⟩
  have hS2 := hS1.growAdd hg2 (o := vec v2 9 1 r2_.length ((r2_).flatMap encTx)) ho1
  replace hP := hK2 r2_ hY2
  refine o_assign (v := v2) rfl (wpList_nil (then_n (seq_reg (o_move (v := v2) rfl (o_move (v := (.slice a1 codes_p.length cap1)) rfl ?_)))))
  obtain ⟨σ1, hS3, hsub1, hr3⟩ := hS2.peek (i := 0) rfl (notin0 _) encTx_len hl1
  obtain ⟨Y3, hK3, hc3⟩ := hP
  refine o_call (args := [v2, (.slice a1 codes_p.length cap1), (.bool false)]) rfl Try.call9 (Calls.mono (w_law10_edges r2_ codes_p false v2 (.slice a1 codes_p.length cap1) hS3.view hr3 (RSl.mono (R := RU8) RU8.mono hsub1 hr1) hc3) ?_)
  rintro _ w3 ⟨r3_, v3, rfl, hg3, hl2, ho2, hY3⟩
  refine ⟨_, rfl, ?_⟩
  have hg3b := hg3.back hsub1
  have hS4 := hS2.growAdd hg3b (o := vec v3 40 2 r3_.length ((r3_).flatMap encEd)) (fresh_back ho2 hsub1)
  replace hP := hK3 r3_ hY3
  refine o_assign (v := v3) rfl (wpList_nil (then_n (seq_reg (o_move (v := v2) rfl (o_move (v := v3) rfl ?_)))))
  obtain ⟨σ2, hS5, hsub2, hr5⟩ := hS4.peek (i := 1) rfl (notin0 _) encTx_len hl1
  obtain ⟨σ3, hS6, hsub3, hr6⟩ := hS5.peek (i := 0) rfl (notin0 _) encEd_len hl2
  obtain ⟨Y4, hK4, hc4⟩ := hP
  refine o_call (args := [v2, v3]) rfl Try.call10 (Calls.mono (w_graph_Order r2_ r3_ v2 v3 hS6.view (RSl.menc hsub3 hr5) hr6 hc4) ?_)
  rintro _ w4 ⟨r4_, r5_, v4, rfl, hg4, hl3, ho3, hY4⟩
  refine ⟨_, rfl, ?_⟩
  have hg4b := hg4.back (Sub.trans hsub2 hsub3)
  have hS7 := hS4.growAdd hg4b (o := vec v4 9 1 r4_.length ((r4_).flatMap encTx)) (fresh_back ho3 (Sub.trans hsub2 hsub3))
  replace hP := hK4 r4_ r5_ hY4
  refine o_move (v := (.tuple #[v4, (.int .i64 r5_)])) rfl (o_extract (v := v4) rfl rfl (o_extract (v := (.int .i64 r5_)) rfl rfl (o_assign (v := v4) rfl (o_assign (v := (.int .i64 r5_)) rfl (wpList_nil (then_n (wp_seq (seq_reg (o_move (v := (.int .i64 r5_)) rfl (o_neq (r := (!decide (r5_ = (0 : Int)))) rfl rfl rfl ?_))))))))))
  by_cases hb1 : r5_ = (0 : Int)
  ·
   replace hP := hP.1 hb1
   refine o_move (v := (.bool false)) (congrArg Value.bool (congrArg Bool.not (decide_eq_true hb1))) (o_on rfl rfl (o_move (v := v4) rfl (o_on rfl rfl (o_len_vec hS7 rfl (i := 0) rfl Try.underlying23 ?_))))
   have hlen1 : r4_.length ≤ 9223372036854775807 := by have := hl3; unfold Sml at this; omega
   replace hP := hP hlen1
   refine o_on rfl rfl (o_move (v := v2) rfl (o_on rfl rfl (o_len_vec hS7 rfl (i := 2) rfl Try.underlying23 ?_)))
   have hlen2 : r2_.length ≤ 9223372036854775807 := by have := hl1; unfold Sml at this; omega
   replace hP := hP hlen2
   refine o_on rfl rfl (o_neq (r := (!decide (((r4_.length : Nat) : Int) = ((r2_.length : Nat) : Int)))) rfl rfl rfl (o_pick_f (v := (.bool (!decide (((r4_.length : Nat) : Int) = ((r2_.length : Nat) : Int))))) rfl rfl (wpList_nil (then_n ?_))))
   refine if_nd (((r4_.length : Nat) : Int) = ((r2_.length : Nat) : Int)) rfl (fun ht2 => ?_) (fun ht2 => ?_)
   ·
    replace hP := hP.2 ht2
    refine seq_reg (o_assign (v := (.bool false)) rfl (wpList_nil (then_n (wp_ret (then_r (ret1 rfl (show ev _ _ _ = (.bool false) from rfl) ?_))))))
    exact ⟨false, rfl, hS7.done.forget, hP⟩
   ·
    replace hP := hP.1 ht2
    refine wp_skip (then_n (wp_seq (seq_reg (o_assign (v := (.int .i64 (0 : Int))) rfl (wpList_nil (then_n (wp_block ?_)))))))
    obtain ⟨σ4, hS8, hsub4, hr8⟩ := hS7.peek (i := 0) rfl (notin0 _) encTx_len hl3
    obtain ⟨a2, cap2, rfl⟩ := hr8.shape
    refine lp_loop1 (fun i_3 f z => ∃ (σ5 : Hv) (g : Fr), f = (upd (upd (upd (upd g 7 v2) 8 v3) 9 (.slice a2 r4_.length cap2)) 11 (.int .i64 ((i_3 : Nat) : Int))) ∧ St ⟨w, σ, []⟩ z σ5 [vec v3 40 2 r3_.length ((r3_).flatMap encEd), vec v2 9 1 r2_.length ((r2_).flatMap encTx)] ∧ Sub σ4 σ5) hP ⟨σ4, _, (upd_in rfl (upd_in rfl (upd_in rfl (upd_in rfl rfl)))), hS8, (Sub.refl _)⟩ ?_
    clear hP
    rintro i_3 Y5 hP f w5 ⟨σ5, g, rfl, hS9, hsub5⟩
    refine wp_seq (seq_reg (o_move (v := (.int .i64 ((i_3 : Nat) : Int))) rfl (o_move (v := (.slice a2 r4_.length cap2)) rfl (o_len_slice rfl Try.underlying23 (o_lss (r := (decide (((i_3 : Nat) : Int) < ((r4_.length : Nat) : Int)))) rfl rfl rfl (wpList_nil (then_n ?_)))))))
    refine if_d (((i_3 : Nat) : Int) < ((r4_.length : Nat) : Int)) rfl (fun ht3 => ?_) (fun ht3 => ?_)
    ·
     replace hP := hP.1 ht3
     refine wp_skip (then_n (wp_seq (wp_block (wp_seq (wp_seq (dr (fun z => St ⟨w, σ, []⟩ z σ5 [vec v3 40 2 r3_.length ((r3_).flatMap encEd), vec v2 9 1 r2_.length ((r2_).flatMap encTx)]) (by kernel_rfl) rfl ?_))))))
     have hS10 := hS9.drew
     refine dt 0 1 (v := v2) (by kernel_rfl) rfl rfl (fun _ _ _ h => h) hS10 (fun _ _ _ hK => o_move (v := v2) rfl ⟨rfl, hK⟩) (dt 1 3 (v := (.slice a2 r4_.length cap2)) (by kernel_rfl) rfl rfl (fun _ _ _ h => h) hS10 (fun _ _ _ hK => o_move (v := (.slice a2 r4_.length cap2)) rfl ⟨rfl, hK⟩) (dt 2 7 (v := (.int .i64 ((i_3 : Nat) : Int))) (by kernel_rfl) rfl rfl (fun _ _ _ h => h) hS10 (fun _ _ _ hK => o_move (v := (.int .i64 ((i_3 : Nat) : Int))) rfl ⟨rfl, hK⟩) ?_))
     obtain ⟨x1_, hx1⟩ := getq (l := r4_) (k := i_3) (by have := ht3; omega)
     replace hP := hP x1_ hx1
     obtain ⟨ad1, cs1, ha1, hl4, hr9, hR1, hlt1⟩ := RSl.at hr8 hx1
     cases hR1
     refine dt 3 15 (v := (.pointer (some (ad1.add (i_3 * 1))))) (by kernel_rfl) rfl rfl (fun _ _ _ h => h) hS10 (fun _ _ _ hK => o_iaddr_slice (k := i_3) (a' := (ad1.add (i_3 * 1))) (congrArg (fun z => Value.slice z _ _) ha1) rfl rfl hlt1 Try.underlying23 Try.sizeOf9 rfl ⟨rfl, hK⟩) (dt 4 31 (v := (.string x1_)) (by kernel_rfl) rfl rfl (fun _ _ _ h => h) hS10 (fun _ hJ _ hK => o_load (v := (.string x1_)) rfl Try.isAgg9 (hr9.cell (View.of hsub5 hJ.view) 0 rfl rfl) ⟨rfl, hK⟩) (d1 5 63 (by kernel_rfl) rfl ?_))
     obtain ⟨σ6, hS11, hsub6, hr10⟩ := hS10.peek (i := 1) rfl (notin0 _) encTx_len hl1
     obtain ⟨Y6, hK5, hc5⟩ := hP
     refine o_call (args := [v2, (.string x1_)]) rfl Try.call13 (Calls.mono (w_ref1_Has r2_ x1_ v2 hS11.view hr10 hc5) ?_)
     rintro _ w6 ⟨r6_, rfl, hg5, hY5⟩
     refine ⟨_, rfl, ?_⟩
     have hg5b := hg5.back hsub6
     have hS12 := hS10.grow hg5b
     replace hP := hK5 r6_ hY5
     refine wpList_nil ?_
     refine ⟨rfl, hS12, ?_⟩
     refine dt 6 127 (v := (.bool (!r6_))) (by kernel_rfl) rfl rfl (fun _ _ _ h => h) hS12 (fun _ _ _ hK => o_not (r := (!r6_)) rfl rfl ⟨rfl, hK⟩) ?_
     rcases Bool.eq_false_or_eq_true (r6_) with hb2 | hb2
     ·
      replace hP := hP.1 hb2
      refine dt 7 255 (v := (.bool false)) (by kernel_rfl) rfl rfl (fun _ _ _ h => h) hS12 (fun _ _ _ hK => o_move (v := (.bool false)) (congrArg Value.bool (congrArg Bool.not hb2)) ⟨rfl, hK⟩) (dt 8 511 (v := (.slice a2 r4_.length cap2)) (by kernel_rfl) rfl rfl (fun _ _ _ h => h) hS12 (fun _ _ _ hK => o_on rfl rfl (o_move (v := (.slice a2 r4_.length cap2)) rfl ⟨rfl, hK⟩)) (dt 9 1023 (v := (.int .i64 ((i_3 : Nat) : Int))) (by kernel_rfl) rfl rfl (fun _ _ _ h => h) hS12 (fun _ _ _ hK => o_on rfl rfl (o_move (v := (.int .i64 ((i_3 : Nat) : Int))) rfl ⟨rfl, hK⟩)) ?_))
      obtain ⟨hle1, hP⟩ := hP
      have hcl1 := RSl.capLen hr8
      have hn1 : (r4_.take i_3).length = i_3 := by simp only [List.length_take]; omega
      have hr11 := RSl.take hr8 i_3 hle1
      refine dt 10 2047 (v := (.slice a2 i_3 cap2)) (by kernel_rfl) rfl rfl (fun _ _ _ h => h) hS12 (fun _ _ _ hK => o_on rfl rfl (o_prefix (r := i_3) rfl Try.underlying23 Try.sizeOf9 rfl (by omega) ⟨rfl, hK⟩)) (dt 11 4095 (v := (.slice a2 r4_.length cap2)) (by kernel_rfl) rfl rfl (fun _ _ _ h => h) hS12 (fun _ _ _ hK => o_on rfl rfl (o_move (v := (.slice a2 r4_.length cap2)) rfl ⟨rfl, hK⟩)) (dt 12 8191 (v := (.int .i64 ((i_3 : Nat) : Int))) (by kernel_rfl) rfl rfl (fun _ _ _ h => h) hS12 (fun _ _ _ hK => o_on rfl rfl (o_move (v := (.int .i64 ((i_3 : Nat) : Int))) rfl ⟨rfl, hK⟩)) (dt 13 16383 (v := (.pointer (some (ad1.add (i_3 * 1))))) (by kernel_rfl) rfl rfl (fun _ _ _ h => h) hS12 (fun _ _ _ hK => o_on rfl rfl (o_iaddr_slice (k := i_3) (a' := (ad1.add (i_3 * 1))) (congrArg (fun z => Value.slice z _ _) ha1) rfl rfl hlt1 Try.underlying23 Try.sizeOf9 rfl ⟨rfl, hK⟩)) (dt 14 32767 (v := (.string x1_)) (by kernel_rfl) rfl rfl (fun _ _ _ h => h) hS12 (fun _ hJ _ hK => o_on rfl rfl (o_load (v := (.string x1_)) rfl Try.isAgg9 (hr9.cell (View.of hsub5 hJ.view) 0 rfl rfl) ⟨rfl, hK⟩)) (d1 15 65535 (by kernel_rfl) rfl (o_on rfl rfl ?_))))))
      obtain ⟨Y7, hK6, hc6⟩ := hP
      refine o_call (args := [(.slice a2 i_3 cap2), (.string x1_)]) rfl Try.call13 (Calls.mono (w_ref1_Has (r4_.take i_3) x1_ (.slice a2 i_3 cap2) hS12.view (RSl.menc hsub5 hr11) hc6) ?_)
      rintro _ w7 ⟨r7_, rfl, hg6, hY6⟩
      refine ⟨_, rfl, ?_⟩
      have hS13 := hS12.grow hg6
      replace hP := hK6 r7_ hY6
      refine wpList_nil ?_
      refine ⟨rfl, hS13, ?_⟩
      refine dt 16 131071 (v := (.bool (r7_))) (by kernel_rfl) rfl rfl (fun _ _ _ h => h) hS13 (fun _ _ _ hK => o_pick_f (v := (.bool (r7_))) rfl rfl ⟨rfl, hK⟩) (dz (by kernel_rfl) (then_n ?_))
      refine if_b rfl (fun ht4 => ?_) (fun ht4 => ?_)
      ·
       replace hP := hP.1 ht4
       refine seq_reg (o_assign (v := (.bool false)) rfl (wpList_nil (then_n (wp_ret (then_r (blk_r (then_r (then_r (blk_r (then_r (ret1 rfl (show ev _ _ _ = (.bool false) from rfl) ?_)))))))))))
       exact ⟨false, rfl, hS13.done.forget, hP⟩
      ·
       replace hP := hP.2 (by first | (rw [ht4]; exact Bool.false_ne_true) | simp [ht4])
       refine wp_skip (then_n (seq_reg (o_move (v := v3) rfl (o_move (v := (.slice a2 r4_.length cap2)) rfl (o_move (v := (.int .i64 ((i_3 : Nat) : Int))) rfl (o_iaddr_slice (k := i_3) (a' := (ad1.add (i_3 * 1))) (congrArg (fun z => Value.slice z _ _) ha1) rfl rfl hlt1 Try.underlying23 Try.sizeOf9 rfl (o_load (v := (.string x1_)) rfl Try.isAgg9 (hr9.cell (View.of hsub5 hS13.view) 0 rfl rfl) ?_)))))))
       obtain ⟨σ7, hS14, hsub7, hr12⟩ := hS13.peek (i := 0) rfl (notin0 _) encEd_len hl2
       obtain ⟨Y8, hK7, hc7⟩ := hP
       refine o_call (args := [v3, (.string x1_)]) rfl Try.call14 (Calls.mono (w_graph_Needs r3_ x1_ v3 hS14.view hr12 hc7) ?_)
       rintro _ w8 ⟨r8_, v5, rfl, hg7, hl5, ho4, hY7⟩
       refine ⟨_, rfl, ?_⟩
       have hg7b := hg7.back hsub7
       have hS15 := hS13.growAdd hg7b (o := vec v5 9 1 r8_.length ((r8_).flatMap encTx)) (fresh_back ho4 hsub7)
       replace hP := hK7 r8_ hY7
       refine o_assign (v := v5) rfl (wpList_nil (then_n (seq_reg (o_assign (v := (.int .i64 (0 : Int))) rfl (wpList_nil (then_n (wp_block ?_)))))))
       refine lp_loop1 (fun k_2 f z => ∃ (σ8 : Hv) (g : Fr), f = (upd (upd (upd (upd (upd (upd (upd (upd (upd (upd (upd (upd (upd (upd g 7 v2) 8 v3) 9 (.slice a2 r4_.length cap2)) 11 (.int .i64 ((i_3 : Nat) : Int))) 12 v5) 13 (.int .i64 ((k_2 : Nat) : Int))) 51 (.slice a2 r4_.length cap2)) 52 (.int .i64 ((i_3 : Nat) : Int))) 53 (.slice a2 i_3 cap2)) 54 (.slice a2 r4_.length cap2)) 55 (.int .i64 ((i_3 : Nat) : Int))) 56 (.pointer (some (ad1.add (i_3 * 1))))) 57 (.string x1_)) 58 (.bool (r7_))) ∧ St ⟨w, σ, []⟩ z σ8 [vec v5 9 1 r8_.length ((r8_).flatMap encTx), vec v3 40 2 r3_.length ((r3_).flatMap encEd), vec v2 9 1 r2_.length ((r2_).flatMap encTx)] ∧ Sub σ5 σ8) hP ⟨σ5, _, (upd_in rfl (upd_in rfl (upd_in rfl (upd_in rfl (upd_in rfl (upd_in rfl (upd_in rfl (upd_in rfl (upd_in rfl (upd_in rfl (upd_in rfl (upd_in rfl (upd_in rfl (upd_in rfl rfl)))))))))))))), hS15, (Sub.refl _)⟩ ?_
       clear hP
       rintro k_2 Y9 hP f w9 ⟨σ8, g, rfl, hS16, hsub8⟩
       refine wp_seq (seq_reg (o_move (v := (.int .i64 ((k_2 : Nat) : Int))) rfl (o_move (v := v5) rfl (o_len_vec hS16 rfl (i := 0) rfl Try.underlying23 ?_))))
       have hlen4 : r8_.length ≤ 9223372036854775807 := by have := hl5; unfold Sml at this; omega
       replace hP := hP hlen4
       refine o_lss (r := (decide (((k_2 : Nat) : Int) < ((r8_.length : Nat) : Int)))) rfl rfl rfl (wpList_nil (then_n ?_))
       refine if_d (((k_2 : Nat) : Int) < ((r8_.length : Nat) : Int)) rfl (fun ht5 => ?_) (fun ht5 => ?_)
       ·
        replace hP := hP.1 ht5
        refine wp_skip (then_n (wp_seq (wp_block (wp_seq (dr (fun z => St ⟨w, σ, []⟩ z σ8 [vec v5 9 1 r8_.length ((r8_).flatMap encTx), vec v3 40 2 r3_.length ((r3_).flatMap encEd), vec v2 9 1 r2_.length ((r2_).flatMap encTx)]) (by kernel_rfl) rfl ?_)))))
        have hS17 := hS16.drew
        refine dt 0 1 (v := (.slice a2 r4_.length cap2)) (by kernel_rfl) rfl rfl (fun _ _ _ h => h) hS17 (fun _ _ _ hK => o_move (v := (.slice a2 r4_.length cap2)) rfl ⟨rfl, hK⟩) (dt 1 3 (v := (.int .i64 ((i_3 : Nat) : Int))) (by kernel_rfl) rfl rfl (fun _ _ _ h => h) hS17 (fun _ _ _ hK => o_move (v := (.int .i64 ((i_3 : Nat) : Int))) rfl ⟨rfl, hK⟩) ?_)
        obtain ⟨hle2, hP⟩ := hP
        have hcl2 := RSl.capLen hr8
        have hn2 : (r4_.take i_3).length = i_3 := by simp only [List.length_take]; omega
        have hr14 := RSl.take hr8 i_3 hle2
        refine dt 2 7 (v := (.slice a2 i_3 cap2)) (by kernel_rfl) rfl rfl (fun _ _ _ h => h) hS17 (fun _ _ _ hK => o_prefix (r := i_3) rfl Try.underlying23 Try.sizeOf9 rfl (by omega) ⟨rfl, hK⟩) (dt 3 15 (v := v5) (by kernel_rfl) rfl rfl (fun _ _ _ h => h) hS17 (fun _ _ _ hK => o_move (v := v5) rfl ⟨rfl, hK⟩) (dt 4 31 (v := (.int .i64 ((k_2 : Nat) : Int))) (by kernel_rfl) rfl rfl (fun _ _ _ h => h) hS17 (fun _ _ _ hK => o_move (v := (.int .i64 ((k_2 : Nat) : Int))) rfl ⟨rfl, hK⟩) ?_))
        obtain ⟨x2_, hx2⟩ := getq (l := r8_) (k := k_2) (by have := ht5; omega)
        replace hP := hP x2_ hx2
        obtain ⟨g1, cp1, hv1⟩ := vec_posv (hS17.get (i := 0) rfl) (lt_of_getq hx2)
        refine dt 5 63 (v := (.pointer (some ⟨g1, k_2 * 1, none⟩))) (by kernel_rfl) rfl rfl (fun _ _ _ h => h) hS17 (fun _ _ _ hK => o_iaddr_slice (k := k_2) (a' := ⟨g1, k_2 * 1, none⟩) hv1 rfl rfl (lt_of_getq hx2) Try.underlying23 Try.sizeOf9 (by simp [addr_lit]) ⟨rfl, hK⟩) (dt 6 127 (v := (.string x2_)) (by kernel_rfl) rfl rfl (fun _ _ _ h => h) hS17 (fun _ hJ _ hK => o_load (v := (.string x2_)) rfl Try.isAgg9 (vec_cellv encTx_len (j := 0) hv1 (hJ.get (i := 0) rfl) hx2 rfl) ⟨rfl, hK⟩) (d1 7 255 (by kernel_rfl) rfl ?_))
        obtain ⟨Y10, hK8, hc8⟩ := hP
        refine o_call (args := [(.slice a2 i_3 cap2), (.string x2_)]) rfl Try.call13 (Calls.mono (w_ref1_Has (r4_.take i_3) x2_ (.slice a2 i_3 cap2) hS17.view (RSl.menc (Sub.trans hsub5 hsub8) hr14) hc8) ?_)
        rintro _ w10 ⟨r9_, rfl, hg8, hY8⟩
        refine ⟨_, rfl, ?_⟩
        have hS18 := hS17.grow hg8
        replace hP := hK8 r9_ hY8
        refine wpList_nil ?_
        refine ⟨rfl, hS18, ?_⟩
        refine dt 8 511 (v := (.bool (!r9_))) (by kernel_rfl) rfl rfl (fun _ _ _ h => h) hS18 (fun _ _ _ hK => o_not (r := (!r9_)) rfl rfl ⟨rfl, hK⟩) (dz (by kernel_rfl) (then_n ?_))
        refine if_nb rfl (fun ht6 => ?_) (fun ht6 => ?_)
        ·
         replace hP := hP.2 (by first | (rw [ht6]; exact Bool.false_ne_true) | simp [ht6])
         refine seq_reg (o_assign (v := (.bool false)) rfl (wpList_nil (then_n (wp_ret (blk_r (then_r (then_r (blk_r (blk_r (then_r (then_r (blk_r (then_r (ret1 rfl (show ev _ _ _ = (.bool false) from rfl) ?_))))))))))))))
         exact ⟨false, rfl, hS18.done.forget, hP⟩
        ·
         replace hP := hP.1 ht6
         refine wp_skip (blk_n (then_n (one_reg (o_move (v := (.int .i64 ((k_2 : Nat) : Int))) rfl (o_add (r := ((k_2 + 1 : Nat) : Int)) rfl rfl (nw (by omega) (by omega) (by have := hlen4; omega)) (o_assign (v := (.int .i64 ((k_2 + 1 : Nat) : Int))) rfl (wpList_nil (then_n ?_))))))))
         exact ⟨k_2 + 1, _, rfl, hP, σ8, _, (upd_in rfl (upd_in rfl (upd_in rfl (upd_in rfl (upd_in rfl (upd_in rfl (upd_in rfl (upd_in rfl (upd_in rfl (upd_in rfl (upd_in rfl (upd_in rfl (upd_in rfl (upd_in rfl rfl)))))))))))))), hS18, hsub8⟩
       ·
        replace hP := hP.2 ht5
        refine wp_exit (then_e (then_e (blk_hit (blk_n (then_n (one_reg (o_move (v := (.int .i64 ((i_3 : Nat) : Int))) rfl (o_add (r := ((i_3 + 1 : Nat) : Int)) rfl rfl (nw (by omega) (by omega) (by have := hlen1; omega)) (o_assign (v := (.int .i64 ((i_3 + 1 : Nat) : Int))) rfl (wpList_nil (then_n ?_)))))))))))
        have hS19 := hS16.front 2 rfl (ms' := [vec v2 9 1 r2_.length ((r2_).flatMap encTx), vec v5 9 1 r8_.length ((r8_).flatMap encTx), vec v3 40 2 r3_.length ((r3_).flatMap encEd)]) rfl
        have hS20 := hS19.front 2 rfl (ms' := [vec v3 40 2 r3_.length ((r3_).flatMap encEd), vec v2 9 1 r2_.length ((r2_).flatMap encTx), vec v5 9 1 r8_.length ((r8_).flatMap encTx)]) rfl
        exact ⟨i_3 + 1, _, rfl, hP, σ8, _, (upd_in rfl (upd_in rfl (upd_in rfl (upd_in rfl rfl)))), (hS20.keep 2 (ms' := [vec v3 40 2 r3_.length ((r3_).flatMap encEd), vec v2 9 1 r2_.length ((r2_).flatMap encTx)]) rfl), (Sub.trans hsub5 hsub8)⟩
     ·
      replace hP := hP.2 (by first | (rw [hb2]; exact Bool.false_ne_true) | simp [hb2])
      refine dt 7 255 (v := (.bool true)) (by kernel_rfl) rfl rfl (fun _ _ _ h => h) hS12 (fun _ _ _ hK => o_move (v := (.bool true)) (congrArg Value.bool (congrArg Bool.not hb2)) ⟨rfl, hK⟩) (dt 8 511 (v := undef) (by kernel_rfl) rfl rfl (fun _ _ _ h => h) hS12 (fun _ _ _ hK => o_off rfl rfl ⟨rfl, hK⟩) (dt 9 1023 (v := undef) (by kernel_rfl) rfl rfl (fun _ _ _ h => h) hS12 (fun _ _ _ hK => o_off rfl rfl ⟨rfl, hK⟩) (dt 10 2047 (v := undef) (by kernel_rfl) rfl rfl (fun _ _ _ h => h) hS12 (fun _ _ _ hK => o_off rfl rfl ⟨rfl, hK⟩) (dt 11 4095 (v := undef) (by kernel_rfl) rfl rfl (fun _ _ _ h => h) hS12 (fun _ _ _ hK => o_off rfl rfl ⟨rfl, hK⟩) (dt 12 8191 (v := undef) (by kernel_rfl) rfl rfl (fun _ _ _ h => h) hS12 (fun _ _ _ hK => o_off rfl rfl ⟨rfl, hK⟩) (dt 13 16383 (v := undef) (by kernel_rfl) rfl rfl (fun _ _ _ h => h) hS12 (fun _ _ _ hK => o_off rfl rfl ⟨rfl, hK⟩) (dt 14 32767 (v := undef) (by kernel_rfl) rfl rfl (fun _ _ _ h => h) hS12 (fun _ _ _ hK => o_off rfl rfl ⟨rfl, hK⟩) (dt 15 65535 (v := undef) (by kernel_rfl) rfl rfl (fun _ _ _ h => h) hS12 (fun _ _ _ hK => o_off rfl rfl ⟨rfl, hK⟩) (dt 16 131071 (v := (.bool true)) (by kernel_rfl) rfl rfl (fun _ _ _ h => h) hS12 (fun _ _ _ hK => o_pick_t (v := (.bool true)) rfl rfl ⟨rfl, hK⟩) (dz (by kernel_rfl) (then_n (if_t rfl (seq_reg (o_assign (v := (.bool false)) rfl (wpList_nil (then_n (wp_ret (then_r (blk_r (then_r (then_r (blk_r (then_r (ret1 rfl (show ev _ _ _ = (.bool false) from rfl) ?_))))))))))))))))))))))))
      exact ⟨false, rfl, hS12.done.forget, hP⟩
    ·
     replace hP := hP.2 ht3
     refine wp_exit (then_e (then_e (blk_hit (then_n (seq_reg (o_assign (v := (.bool true)) rfl (wpList_nil (then_n (wp_ret (ret1 rfl (show ev _ _ _ = (.bool true) from rfl) ?_))))))))))
     exact ⟨true, rfl, hS9.done.forget, hP⟩
  ·
   replace hP := hP.2 hb1
   refine o_move (v := (.bool true)) (congrArg Value.bool (congrArg Bool.not (decide_eq_false hb1))) (o_off rfl rfl (o_off rfl rfl (o_off rfl rfl (o_off rfl rfl (o_off rfl rfl (o_pick_t (v := (.bool true)) rfl rfl (wpList_nil (then_n (if_t rfl (seq_reg (o_assign (v := (.bool false)) rfl (wpList_nil (then_n (wp_ret (then_r (ret1 rfl (show ev _ _ _ = (.bool false) from rfl) ?_))))))))))))))))
   exact ⟨false, rfl, hS7.done.forget, hP⟩

end Go.Proofs.Ytegcjfidfinogaa
