/- A call does what its plain meaning says, and leaves the memory that was there as it was: law10_GraphCycles. -/
import Derived.Test.YtegcjfidfinogaaRows
import Derived.Test.YtegcjfidfinogaaFlLift
import Derived.Test.YtegcjfidfinogaaPuLCycles
import Derived.KernelRfl
import Derived.Test.YtegcjfidfinogaaLwC
namespace Go.Proofs.Ytegcjfidfinogaa
open Go Go.RowKit Go.Fl
set_option maxHeartbeats 2000000 in
theorem w_law10_GraphCycles {σ : Hv} {w : World} (n_p : Int) (turn_p : Int) (other_p : Int) (codes_p : (List UInt8)) (v1 : Value) {K : Bool → Prop} (hV : View σ w) (hr1 : RSl 1 RU8 σ v1 codes_p) (hP : P_law10_GraphCycles n_p turn_p other_p codes_p K) :
    Calls Try.prog 5 #[(.int .i64 n_p), (.int .i64 turn_p), (.int .i64 other_p), v1] w (fun e w1 => ∃ (r1 : Bool), e = .returned (.bool (r1)) ∧ Grow [] σ w σ w1 ∧ K r1) := by
 unfold P_law10_GraphCycles at hP
 obtain ⟨a1, cap1, rfl⟩ := hr1.shape
 refine enter Try.func5 rfl rfl rfl ?_
 have hS := St.start hV
 refine seq_reg (o_assign (v := (.bool false)) rfl (wpList_nil (then_n (wp_seq (seq_reg ?_)))))
 obtain ⟨Y1, hK1, hc1⟩ := hP
 refine o_call (args := []) rfl Try.call7 (Calls.mono (w_law10_awake hS.view hc1) ?_)
 rintro _ w1 ⟨r1_, rfl, hg1, hY1⟩
 refine ⟨_, rfl, ?_⟩
 have hS1 := hS.grow hg1
 replace hP := hK1 r1_ hY1
 refine o_not (r := (!r1_)) rfl rfl (wpList_nil (then_n ?_))
 refine if_nb rfl (fun ht1 => ?_) (fun ht1 => ?_)
 ·
  replace hP := hP.2 (by first | (rw [ht1]; exact Bool.false_ne_true) | simp [ht1])
  refine seq_reg (o_assign (v := (.bool false)) rfl (wpList_nil (then_n (wp_ret (then_r (ret1 rfl (show ev _ _ _ = (.bool false) from rfl) ?_))))))
  exact ⟨false, rfl, hS1.done.forget, hP⟩
 ·
  replace hP := hP.1 ht1
  refine wp_skip (then_n (seq_reg (o_move (v := (.int .i64 n_p)) rfl (o_move (v := (.int .i64 turn_p)) rfl ?_))))
  obtain ⟨Y2, hK2, hc2⟩ := hP
  refine o_call (args := [(.int .i64 n_p), (.int .i64 turn_p)]) rfl Try.call8 (Calls.mono (w_law10_nodes n_p turn_p hS1.view hc2) ?_)
  rintro _ w2 ⟨r2_, v2, rfl, hg2, hl1, ho1, hY2⟩
  refine ⟨_, rfl, ?_⟩
  have hS2 := hS1.growAdd hg2 (o := vec v2 9 1 r2_.length ((r2_).flatMap encTx)) ho1
  replace hP := hK2 r2_ hY2
  refine o_assign (v := v2) rfl (wpList_nil (then_n (seq_reg (o_move (v := v2) rfl (o_move (v := (.slice a1 codes_p.length cap1)) rfl ?_)))))
  obtain ⟨σ1, hS3, hsub1, hr3⟩ := hS2.peek (i := 0) rfl (notin0 _) encTx_len hl1
  obtain ⟨Y3, hK3, hc3⟩ := hP
  refine o_call (args := [v2, (.slice a1 codes_p.length cap1), (.bool true)]) rfl Try.call9 (Calls.mono (w_law10_edges r2_ codes_p true v2 (.slice a1 codes_p.length cap1) hS3.view hr3 (RSl.mono (R := RU8) RU8.mono hsub1 hr1) hc3) ?_)
  rintro _ w3 ⟨r3_, v3, rfl, hg3, hl2, ho2, hY3⟩
  refine ⟨_, rfl, ?_⟩
  have hg3b := hg3.back hsub1
  have hS4 := hS2.growAdd hg3b (o := vec v3 40 2 r3_.length ((r3_).flatMap encEd)) (fresh_back ho2 hsub1)
  replace hP := hK3 r3_ hY3
  refine o_assign (v := v3) rfl (wpList_nil (then_n (seq_reg (o_move (v := v2) rfl (o_move (v := v3) rfl ?_)))))
  obtain ⟨σ2, hS5, hsub2, hr5⟩ := hS4.peek (i := 1) rfl (notin0 _) encTx_len hl1
  obtain ⟨σ3, hS6, hsub3, hr6⟩ := hS5.peek (i := 0) rfl (notin0 _) encEd_len hl2
  obtain ⟨Y4, hK4, hc4⟩ := hP
  refine o_call (args := [v2, v3]) rfl Try.call10 (Calls.mono (w_graph_Order r2_ r3_ v2 v3 hS6.view (RSl.menc hsub3 hr5) hr6 hc4) ?_)
  rintro _ w4 ⟨r4_, r5_, v4, rfl, hg4, hl3, ho3, hY4⟩
  refine ⟨_, rfl, ?_⟩
  have hg4b := hg4.back (Sub.trans hsub2 hsub3)
  have hS7 := hS4.growAdd hg4b (o := vec v4 9 1 r4_.length ((r4_).flatMap encTx)) (fresh_back ho3 (Sub.trans hsub2 hsub3))
  replace hP := hK4 r4_ r5_ hY4
  refine o_move (v := (.tuple #[v4, (.int .i64 r5_)])) rfl (o_extract (v := v4) rfl rfl (o_extract (v := (.int .i64 r5_)) rfl rfl (o_assign (v := v4) rfl (o_assign (v := (.int .i64 r5_)) rfl (wpList_nil (then_n (seq_reg (o_move (v := v2) rfl (o_move (v := v3) rfl ?_)))))))))
  obtain ⟨σ4, hS8, hsub4, hr8⟩ := hS7.peek (i := 2) rfl (notin0 _) encTx_len hl1
  obtain ⟨σ5, hS9, hsub5, hr9⟩ := hS8.peek (i := 1) rfl (notin0 _) encEd_len hl2
  obtain ⟨Y5, hK5, hc5⟩ := hP
  refine o_call (args := [v2, v3]) rfl Try.call15 (Calls.mono (w_graph_Cyclic r2_ r3_ v2 v3 hS9.view (RSl.menc hsub5 hr8) hr9 hc5) ?_)
  rintro _ w5 ⟨r6_, v5, rfl, hg5, hl4, ho4, hY5⟩
  refine ⟨_, rfl, ?_⟩
  have hg5b := hg5.back (Sub.trans hsub4 hsub5)
  have hS10 := hS7.growAdd hg5b (o := vec v5 9 1 r6_.length ((r6_).flatMap encTx)) (fresh_back ho4 (Sub.trans hsub4 hsub5))
  replace hP := hK5 r6_ hY5
  refine o_assign (v := v5) rfl (wpList_nil (then_n (seq_reg (o_move (v := v3) rfl (o_len_vec hS10 rfl (i := 2) rfl Try.underlying24 ?_)))))
  have hlen1 : r3_.length ≤ 9223372036854775807 := by have := hl2; unfold Sml at this; omega
  replace hP := hP hlen1
  obtain ⟨hsm1, hP⟩ := hP
  refine o_make (bytes := 32) (size := 2) (k := r3_.length) (xs := ((List.replicate r3_.length ((⟨#[]⟩ : ByteArray), (⟨#[]⟩ : ByteArray)))).flatMap encEd) hS10 rfl rfl rfl Try.underlying24 Try.type40 rfl rfl rfl (by unfold Sml at hsm1; omega) (by unfold Sml at hsm1; unfold maxLen; omega) (made_many encEd_len ((⟨#[]⟩ : ByteArray), (⟨#[]⟩ : ByteArray)) rfl _) ?_
  intro b1 w6 hS11
  have hS12 := hS11.re (ms' := [vec (.slice (some ⟨b1, 0, none⟩) r3_.length r3_.length) 40 2 ((List.replicate r3_.length ((⟨#[]⟩ : ByteArray), (⟨#[]⟩ : ByteArray))).length) (((List.replicate r3_.length ((⟨#[]⟩ : ByteArray), (⟨#[]⟩ : ByteArray)))).flatMap encEd), vec v5 9 1 r6_.length ((r6_).flatMap encTx), vec v4 9 1 r4_.length ((r4_).flatMap encTx), vec v3 40 2 r3_.length ((r3_).flatMap encEd), vec v2 9 1 r2_.length ((r2_).flatMap encTx)]) (by rw [List.length_replicate])
  refine o_assign (v := (.slice (some ⟨b1, 0, none⟩) r3_.length r3_.length)) rfl (wpList_nil (then_n (wp_seq (seq_reg (o_move (v := v3) rfl (o_len_vec hS12 rfl (i := 3) rfl Try.underlying24 (o_move (v := (.int .i64 (0 : Int))) rfl (wpList_nil (then_n (wp_block ?_))))))))))
  refine lp_loop2 (fun k_3 l_2 f z => ∃ (σ6 : Hv) (g : Fr), f = (upd (upd (upd (upd (upd (upd (upd (upd (upd g 0 (.int .i64 n_p)) 2 (.int .i64 other_p)) 10 v3) 11 v4) 12 (.int .i64 r5_)) 13 v5) 14 (.slice (some ⟨b1, 0, none⟩) r3_.length r3_.length)) 39 (.int .i64 ((r3_.length : Nat) : Int))) 40 (.int .i64 ((k_3 : Nat) : Int))) ∧ St ⟨w, σ, []⟩ z σ6 [vec (.slice (some ⟨b1, 0, none⟩) r3_.length r3_.length) 40 2 l_2.length ((l_2).flatMap encEd), vec v5 9 1 r6_.length ((r6_).flatMap encTx), vec v4 9 1 r4_.length ((r4_).flatMap encTx), vec v3 40 2 r3_.length ((r3_).flatMap encEd), vec v2 9 1 r2_.length ((r2_).flatMap encTx)] ∧ Sub σ σ6 ∧ Sml l_2.length) hP ⟨σ, _, (upd_in rfl (upd_in rfl (upd_in rfl (upd_in rfl (upd_in rfl (upd_in rfl (upd_in rfl (upd_in rfl (upd_in rfl rfl))))))))), hS12, (Sub.refl _), (by rw [List.length_replicate]; exact hsm1)⟩ ?_
  clear hP
  rintro k_3 l_2 Y6 hP f w7 ⟨σ6, g, rfl, hS13, hsub6, hl7⟩
  refine seq_reg (o_lss (r := (decide (((k_3 : Nat) : Int) < ((r3_.length : Nat) : Int)))) rfl rfl rfl (wpList_nil (then_n (wp_seq ?_))))
  refine if_d (((k_3 : Nat) : Int) < ((r3_.length : Nat) : Int)) rfl (fun ht2 => ?_) (fun ht2 => ?_)
  ·
   replace hP := hP.1 ht2
   refine wp_skip (then_n (wp_seq (wp_block (seq_reg (o_move (v := (.int .i64 ((k_3 : Nat) : Int))) rfl (o_assign (v := (.int .i64 ((k_3 : Nat) : Int))) rfl (wpList_nil (then_n (one_reg (o_move (v := (.slice (some ⟨b1, 0, none⟩) r3_.length r3_.length)) rfl (o_move (v := v3) rfl (o_len_vec hS13 rfl (i := 3) rfl Try.underlying24 ?_))))))))))))
   obtain ⟨hi1, hP⟩ := hP
   refine o_sub (r := (((r3_.length : Nat) : Int) - (1 : Int))) rfl rfl (nwi rfl hi1) (o_move (v := (.int .i64 ((k_3 : Nat) : Int))) rfl ?_)
   obtain ⟨hi2, hP⟩ := hP
   refine o_sub (r := ((((r3_.length : Nat) : Int) - (1 : Int)) - ((k_3 : Nat) : Int))) rfl rfl (nwi rfl hi2) (o_move (v := v3) rfl (o_move (v := (.int .i64 ((k_3 : Nat) : Int))) rfl ?_))
   obtain ⟨x1_, hx1⟩ := getq (l := r3_) (k := k_3) (by have := ht2; omega)
   replace hP := hP x1_ hx1
   obtain ⟨g1, cp1, hv1⟩ := vec_posv (hS13.get (i := 3) rfl) (lt_of_getq hx1)
   refine o_iaddr_slice (k := k_3) (a' := ⟨g1, k_3 * 2, none⟩) hv1 rfl rfl (lt_of_getq hx1) Try.underlying24 Try.sizeOf40 (by simp [addr_lit]) (o_loadA (cs := [(.string x1_.1), (.string x1_.2)]) rfl Try.isAgg40 Try.sizeOf40 rfl (vec_partv encEd_len hv1 (hS13.get (i := 3) rfl) hx1) ?_)
   obtain ⟨j1_, hj1, hP⟩ := hP
   obtain ⟨x2_, hx2, hP⟩ := hP
   obtain ⟨g2, cp2, hv2⟩ := vec_posv (hS13.get (i := 0) rfl) (lt_of_getq hx2)
   refine o_iaddr_slice (k := j1_) (a' := ⟨g2, j1_ * 2, none⟩) hv2 rfl hj1 (lt_of_getq hx2) Try.underlying24 Try.sizeOf40 (by simp [addr_lit]) (o_store_vecv (a := j1_) (b := 0) (e := x2_) (z := x1_) (l := l_2) (enc := encEd) (vs := [(.string x1_.1), (.string x1_.2)]) (i := 0) (ms' := [vec (.slice (some ⟨b1, 0, none⟩) r3_.length r3_.length) 40 2 ((l_2.set j1_ x1_).length) ((l_2.set j1_ x1_).flatMap encEd), vec v5 9 1 r6_.length ((r6_).flatMap encTx), vec v4 9 1 r4_.length ((r4_).flatMap encTx), vec v3 40 2 r3_.length ((r3_).flatMap encEd), vec v2 9 1 r2_.length ((r2_).flatMap encTx)]) hS13 rfl rfl rfl Try.sizeOf40 rfl (ones rfl) hv2 rfl encEd_len hx2 rfl (Nat.le_of_ble_eq_true rfl) rfl rfl ?_)
   intro w8 hS14
   refine wpList_nil (blk_n (then_n (one_reg (o_add (r := ((k_3 + 1 : Nat) : Int)) rfl rfl (nw (by omega) (by omega) (by have := hlen1; omega)) (o_move (v := (.int .i64 ((k_3 + 1 : Nat) : Int))) rfl (wpList_nil (then_n ?_)))))))
   exact ⟨k_3 + 1, l_2.set j1_ x1_, _, rfl, hP, σ6, _, (upd_in rfl (upd_in rfl (upd_in rfl (upd_in rfl (upd_in rfl (upd_in rfl (upd_in rfl (upd_in rfl (upd_in rfl rfl))))))))), hS14, hsub6, (by rw [List.length_set]; exact hl7)⟩
  ·
   replace hP := hP.2 ht2
   refine wp_exit (then_e (then_e (blk_hit (then_n (seq_reg (o_move (v := (.int .i64 n_p)) rfl (o_move (v := (.int .i64 other_p)) rfl ?_)))))))
   obtain ⟨Y7, hK6, hc6⟩ := hP
   refine o_call (args := [(.int .i64 n_p), (.int .i64 other_p)]) rfl Try.call8 (Calls.mono (w_law10_nodes n_p other_p hS13.view hc6) ?_)
   rintro _ w9 ⟨r7_, v6, rfl, hg6, hl8, ho5, hY6⟩
   refine ⟨_, rfl, ?_⟩
   have hS15 := hS13.growAdd hg6 (o := vec v6 9 1 r7_.length ((r7_).flatMap encTx)) ho5
   replace hP := hK6 r7_ hY6
   refine o_move (v := (.slice (some ⟨b1, 0, none⟩) r3_.length r3_.length)) rfl ?_
   obtain ⟨σ7, hS16, hsub7, hr12⟩ := hS15.peek (i := 0) rfl (notin0 _) encTx_len hl8
   obtain ⟨σ8, hS17, hsub8, hr13⟩ := hS16.peek (i := 0) rfl (notin0 _) encEd_len hl7
   obtain ⟨Y8, hK7, hc7⟩ := hP
   refine o_call (args := [v6, (.slice (some ⟨b1, 0, none⟩) r3_.length r3_.length)]) rfl Try.call10 (Calls.mono (w_graph_Order r7_ l_2 v6 (.slice (some ⟨b1, 0, none⟩) r3_.length r3_.length) hS17.view (RSl.menc hsub8 hr12) hr13 hc7) ?_)
   rintro _ w10 ⟨r8_, r9_, v7, rfl, hg7, hl9, ho6, hY7⟩
   refine ⟨_, rfl, ?_⟩
   have hg7b := hg7.back (Sub.trans hsub7 hsub8)
   have hS18 := hS15.growAdd hg7b (o := vec v7 9 1 r8_.length ((r8_).flatMap encTx)) (fresh_back ho6 (Sub.trans hsub7 hsub8))
   replace hP := hK7 r8_ r9_ hY7
   refine o_move (v := (.tuple #[v7, (.int .i64 r9_)])) rfl (o_extract (v := v7) rfl rfl (o_extract (v := (.int .i64 r9_)) rfl rfl (o_assign (v := v7) rfl (o_assign (v := (.int .i64 r9_)) rfl (wpList_nil (then_n ?_))))))
   obtain ⟨Y9, hK8, hP⟩ := hP
   refine cut (fun f z => ∃ (σ9 : Hv) (g : Fr), Y9 ∧ f = (upd (upd (upd (upd (upd g 11 v4) 12 (.int .i64 r5_)) 13 v5) 16 v7) 17 (.int .i64 r9_)) ∧ St ⟨w, σ, []⟩ z σ9 [vec v7 9 1 r8_.length ((r8_).flatMap encTx), vec v6 9 1 r7_.length ((r7_).flatMap encTx), vec (.slice (some ⟨b1, 0, none⟩) r3_.length r3_.length) 40 2 l_2.length ((l_2).flatMap encEd), vec v5 9 1 r6_.length ((r6_).flatMap encTx), vec v4 9 1 r4_.length ((r4_).flatMap encTx), vec v3 40 2 r3_.length ((r3_).flatMap encEd), vec v2 9 1 r2_.length ((r2_).flatMap encTx)] ∧ Sub σ6 σ9) ?_ ?_
   ·
    refine seq_reg (o_move (v := (.int .i64 r5_)) rfl (o_neq (r := (!decide (r5_ = (0 : Int)))) rfl rfl rfl ?_))
    by_cases hb1 : r5_ = (0 : Int)
    ·
     replace hP := hP.1 hb1
     refine o_move (v := (.bool false)) (congrArg Value.bool (congrArg Bool.not (decide_eq_true hb1))) (o_off rfl rfl (o_off rfl rfl (o_pick_f (v := (.bool false)) rfl rfl (wpList_nil (then_n (if_f rfl (wp_skip (then_n ?_))))))))
     exact ⟨_, rfl, σ6, _, hP, (upd_in rfl (upd_in rfl (upd_in rfl (upd_in rfl (upd_in rfl rfl))))), hS18, (Sub.refl _)⟩
    ·
     replace hP := hP.2 hb1
     refine o_move (v := (.bool true)) (congrArg Value.bool (congrArg Bool.not (decide_eq_false hb1))) (o_on rfl rfl (o_move (v := (.int .i64 r5_)) rfl (o_on rfl rfl (o_neq (r := (!decide (r5_ = (12 : Int)))) rfl rfl rfl (o_pick_t (v := (.bool (!decide (r5_ = (12 : Int))))) rfl rfl (wpList_nil (then_n ?_)))))))
     refine if_nd (r5_ = (12 : Int)) rfl (fun ht3 => ?_) (fun ht3 => ?_)
     ·
      replace hP := hP.2 ht3
      refine seq_reg (o_assign (v := (.bool false)) rfl (wpList_nil (then_n (wp_ret (then_r (ret1 rfl (show ev _ _ _ = (.bool false) from rfl) ?_))))))
      exact ⟨false, rfl, hS18.done.forget, hP⟩
     ·
      replace hP := hP.1 ht3
      refine wp_skip (then_n ?_)
      exact ⟨_, rfl, σ6, _, hP, (upd_in rfl (upd_in rfl (upd_in rfl (upd_in rfl (upd_in rfl rfl))))), hS18, (Sub.refl _)⟩
   ·
    rintro f w11 ⟨σ9, g, hY8, rfl, hS19, hsub9⟩
    replace hP := hK8 hY8
    refine seq_reg (o_move (v := (.int .i64 r5_)) rfl (o_eql (r := (decide (r5_ = (12 : Int)))) rfl rfl rfl (o_move (v := v5) rfl (o_len_vec hS19 rfl (i := 3) rfl Try.underlying23 ?_))))
    have hlen4 : r6_.length ≤ 9223372036854775807 := by have := hl4; unfold Sml at this; omega
    replace hP := hP hlen4
    refine o_gtr (r := (decide ((0 : Int) < ((r6_.length : Nat) : Int)))) rfl rfl rfl (o_eqlb (r := ((decide (r5_ = (12 : Int))) == (decide ((0 : Int) < ((r6_.length : Nat) : Int))))) Try.underlying4 rfl rfl rfl ?_)
    rcases Bool.eq_false_or_eq_true ((decide (r5_ = (12 : Int))) == (decide ((0 : Int) < ((r6_.length : Nat) : Int)))) with hb2 | hb2
    ·
     replace hP := hP.1 hb2
     refine o_move (v := (.bool true)) (congrArg Value.bool hb2) (o_on rfl rfl (o_move (v := (.int .i64 r9_)) rfl (o_on rfl rfl (o_move (v := (.int .i64 r5_)) rfl (o_on rfl rfl (o_eql (r := (decide (r9_ = r5_))) rfl rfl rfl (o_pick_t (v := (.bool (decide (r9_ = r5_)))) rfl rfl ?_)))))))
     by_cases hb3 : r9_ = r5_
     ·
      replace hP := hP.1 hb3
      refine o_move (v := (.bool true)) (congrArg Value.bool (decide_eq_true hb3)) (o_on rfl rfl (o_move (v := v4) rfl (o_on rfl rfl (o_move (v := v7) rfl (o_on rfl rfl ?_)))))
      obtain ⟨σ10, hS20, hsub10, hr15⟩ := hS19.peek (i := 4) rfl (notin0 _) encTx_len hl3
      obtain ⟨σ11, hS21, hsub11, hr16⟩ := hS20.peek (i := 0) rfl (notin0 _) encTx_len hl9
      obtain ⟨Y10, hK9, hc8⟩ := hP
      refine o_call (args := [v4, v7]) rfl Try.call12 (Calls.mono (w_ref1_Same r4_ r8_ v4 v7 hS21.view (RSl.menc hsub11 hr15) hr16 hc8) ?_)
      rintro _ w12 ⟨r10_, rfl, hg8, hY9⟩
      refine ⟨_, rfl, ?_⟩
      have hg8b := hg8.back (Sub.trans hsub10 hsub11)
      have hS22 := hS19.grow hg8b
      replace hP := hK9 r10_ hY9
      refine o_pick_t (v := (.bool (r10_))) rfl rfl (o_assign (v := (.bool (r10_))) rfl (wpList_nil (then_n (wp_ret (ret1 rfl (show ev _ _ _ = (.bool (r10_)) from rfl) ?_)))))
      exact ⟨(r10_), rfl, hS22.done.forget, hP⟩
     ·
      replace hP := hP.2 hb3
      refine o_move (v := (.bool false)) (congrArg Value.bool (decide_eq_false hb3)) (o_off rfl rfl (o_off rfl rfl (o_off rfl rfl (o_pick_f (v := (.bool false)) rfl rfl (o_assign (v := (.bool false)) rfl (wpList_nil (then_n (wp_ret (ret1 rfl (show ev _ _ _ = (.bool false) from rfl) ?_)))))))))
      exact ⟨false, rfl, hS19.done.forget, hP⟩
    ·
     replace hP := hP.2 (by first | (rw [hb2]; exact Bool.false_ne_true) | simp [hb2])
     refine o_move (v := (.bool false)) (congrArg Value.bool hb2) (o_off rfl rfl (o_off rfl rfl (o_off rfl rfl (o_pick_f (v := (.bool false)) rfl rfl (o_move (v := (.bool false)) rfl (o_off rfl rfl (o_off rfl rfl (o_off rfl rfl (o_pick_f (v := (.bool false)) rfl rfl (o_assign (v := (.bool false)) rfl (wpList_nil (then_n (wp_ret (ret1 rfl (show ev _ _ _ = (.bool false) from rfl) ?_))))))))))))))
     exact ⟨false, rfl, hS19.done.forget, hP⟩

end Go.Proofs.Ytegcjfidfinogaa
