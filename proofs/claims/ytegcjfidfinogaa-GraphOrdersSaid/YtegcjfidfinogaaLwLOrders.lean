/- A call does what its plain meaning says, and leaves the memory that was there as it was: law10_GraphOrders. -/
import Derived.Test.YtegcjfidfinogaaRows
import Derived.Test.YtegcjfidfinogaaFlLift
import Derived.Test.YtegcjfidfinogaaPuLOrders
import Derived.KernelRfl
import Derived.Test.YtegcjfidfinogaaLwC
namespace Go.Proofs.Ytegcjfidfinogaa
open Go Go.RowKit Go.Fl
set_option maxHeartbeats 2000000 in
theorem w_law10_GraphOrders {σ : Hv} {w : World} (n_p : Int) (turn_p : Int) (codes_p : (List UInt8)) (up_p : Bool) (raw_p : (List ByteArray)) (e_p : (List (ByteArray × ByteArray))) (v1 : Value) (v2 : Value) (v3 : Value) {K : Bool → Prop} (hV : View σ w) (hr1 : RSl 1 RU8 σ v1 codes_p) (hr2 : RSl 1 (REnc encTx) σ v2 raw_p) (hr3 : RSl 2 (REnc encEd) σ v3 e_p) (hP : P_law10_GraphOrders n_p turn_p codes_p up_p raw_p e_p K) :
    Calls Try.prog 3 #[(.int .i64 n_p), (.int .i64 turn_p), v1, (.bool (up_p)), v2, v3] w (fun e w1 => ∃ (r1 : Bool), e = .returned (.bool (r1)) ∧ Grow [] σ w σ w1 ∧ K r1) := by
 unfold P_law10_GraphOrders at hP
 obtain ⟨a1, cap1, rfl⟩ := hr1.shape
 obtain ⟨a2, cap2, rfl⟩ := hr2.shape
 obtain ⟨a3, cap3, rfl⟩ := hr3.shape
 refine enter Try.func3 rfl rfl rfl ?_
 have hS := St.start hV
 refine seq_reg (o_assign (v := (.bool false)) rfl (wpList_nil (then_n (wp_seq (seq_reg ?_)))))
 obtain ⟨Y1, hK1, hc1⟩ := hP
 refine o_call (args := []) rfl Try.call7 (Calls.mono (w_law10_awake hS.view hc1) ?_)
 rintro _ w1 ⟨r1_, rfl, hg1, hY1⟩
 refine ⟨_, rfl, ?_⟩
 have hS1 := hS.grow hg1
 replace hP := hK1 r1_ hY1
 refine o_not (r := (!r1_)) rfl rfl (wpList_nil (then_n ?_))
 refine if_nb rfl (fun ht1 => ?_) (fun ht1 => ?_)
 ·
  replace hP := hP.2 (by first | (rw [ht1]; exact Bool.false_ne_true) | simp [ht1])
  refine seq_reg (o_assign (v := (.bool false)) rfl (wpList_nil (then_n (wp_ret (then_r (ret1 rfl (show ev _ _ _ = (.bool false) from rfl) ?_))))))
  exact ⟨false, rfl, hS1.done.forget, hP⟩
 ·
  replace hP := hP.1 ht1
  refine wp_skip (then_n (wp_seq (seq_reg (o_move (v := (.slice a2 raw_p.length cap2)) rfl (o_len_slice rfl Try.underlying23 ?_)))))
  have hlen1 := RSl.len63 hr2
  replace hP := hP hlen1
  refine o_gtr (r := (decide ((12 : Int) < ((raw_p.length : Nat) : Int)))) rfl rfl rfl ?_
  by_cases hb1 : (12 : Int) < ((raw_p.length : Nat) : Int)
  ·
   replace hP := hP.1 hb1
   refine o_move (v := (.bool true)) (congrArg Value.bool (decide_eq_true hb1)) (o_off rfl rfl (o_off rfl rfl (o_off rfl rfl (o_pick_t (v := (.bool true)) rfl rfl (wpList_nil (then_n (if_t rfl (seq_reg (o_assign (v := (.bool true)) rfl (wpList_nil (then_n (wp_ret (then_r (ret1 rfl (show ev _ _ _ = (.bool true) from rfl) ?_))))))))))))))
   exact ⟨true, rfl, hS1.done.forget, hP⟩
  ·
   replace hP := hP.2 hb1
   refine o_move (v := (.bool false)) (congrArg Value.bool (decide_eq_false hb1)) (o_on rfl rfl (o_move (v := (.slice a3 e_p.length cap3)) rfl (o_on rfl rfl (o_len_slice rfl Try.underlying24 ?_))))
   have hlen2 := RSl.len63 hr3
   replace hP := hP hlen2
   refine o_on rfl rfl (o_gtr (r := (decide ((30 : Int) < ((e_p.length : Nat) : Int)))) rfl rfl rfl (o_pick_f (v := (.bool (decide ((30 : Int) < ((e_p.length : Nat) : Int))))) rfl rfl (wpList_nil (then_n ?_))))
   refine if_d ((30 : Int) < ((e_p.length : Nat) : Int)) rfl (fun ht2 => ?_) (fun ht2 => ?_)
   ·
    replace hP := hP.1 ht2
    refine seq_reg (o_assign (v := (.bool true)) rfl (wpList_nil (then_n (wp_ret (then_r (ret1 rfl (show ev _ _ _ = (.bool true) from rfl) ?_))))))
    exact ⟨true, rfl, hS1.done.forget, hP⟩
   ·
    replace hP := hP.2 ht2
    refine wp_skip (then_n (seq_reg (o_move (v := (.int .i64 n_p)) rfl (o_move (v := (.int .i64 turn_p)) rfl ?_))))
    obtain ⟨Y2, hK2, hc2⟩ := hP
    refine o_call (args := [(.int .i64 n_p), (.int .i64 turn_p)]) rfl Try.call8 (Calls.mono (w_law10_nodes n_p turn_p hS1.view hc2) ?_)
    rintro _ w2 ⟨r2_, v4, rfl, hg2, hl1, ho1, hY2⟩
    refine ⟨_, rfl, ?_⟩
    have hS2 := hS1.growAdd hg2 (o := vec v4 9 1 r2_.length ((r2_).flatMap encTx)) ho1
    replace hP := hK2 r2_ hY2
    refine o_assign (v := v4) rfl (wpList_nil (then_n (seq_reg (o_move (v := v4) rfl (o_move (v := (.slice a1 codes_p.length cap1)) rfl (o_move (v := (.bool (up_p))) rfl ?_))))))
    obtain ⟨σ1, hS3, hsub1, hr5⟩ := hS2.peek (i := 0) rfl (notin0 _) encTx_len hl1
    obtain ⟨Y3, hK3, hc3⟩ := hP
    refine o_call (args := [v4, (.slice a1 codes_p.length cap1), (.bool (up_p))]) rfl Try.call9 (Calls.mono (w_law10_edges r2_ codes_p (up_p) v4 (.slice a1 codes_p.length cap1) hS3.view hr5 (RSl.mono (R := RU8) RU8.mono hsub1 hr1) hc3) ?_)
    rintro _ w3 ⟨r3_, v5, rfl, hg3, hl2, ho2, hY3⟩
    refine ⟨_, rfl, ?_⟩
    have hg3b := hg3.back hsub1
    have hS4 := hS2.growAdd hg3b (o := vec v5 40 2 r3_.length ((r3_).flatMap encEd)) (fresh_back ho2 hsub1)
    replace hP := hK3 r3_ hY3
    refine o_assign (v := v5) rfl (wpList_nil (then_n (wp_seq (seq_reg (o_move (v := v4) rfl (o_move (v := (.slice a2 raw_p.length cap2)) rfl (o_move (v := v4) rfl ?_)))))))
    have hS5 := hS4.addNil 9 1
    obtain ⟨hsm1, hP⟩ := hP
    refine o_appV (enc := encTx) (l := r2_) (qy := 2) (Ms := fun v6 => [vec v6 9 1 r2_.length ((r2_).flatMap encTx), vec v5 40 2 r3_.length ((r3_).flatMap encEd), vec v4 9 1 r2_.length ((r2_).flatMap encTx)]) (k' := r2_.length) (xs' := (r2_).flatMap encTx) Try.underlying23 Try.type9 rfl rfl (bytes := 16) rfl rfl (Nat.succ_pos _) hS5 rfl (q := 0) rfl rfl rfl encTx_len encTx_one hsm1 (by omega) (by first | rfl | exact List.length_append.symm | simp) (List.nil_append _) (fun _ => rfl) ?_
    intro v6 w4 ho3 hS6
    refine o_move (v := (.slice a2 raw_p.length cap2)) rfl ?_
    obtain ⟨hsm2, hP⟩ := hP
    refine o_appR (enc := encTx) (l := raw_p) (Ms := fun v7 => [vec v7 9 1 ((r2_ ++ raw_p).length) ((r2_ ++ raw_p).flatMap encTx), vec v5 40 2 r3_.length ((r3_).flatMap encEd), vec v4 9 1 r2_.length ((r2_).flatMap encTx)]) (k' := (r2_ ++ raw_p).length) (xs' := (r2_ ++ raw_p).flatMap encTx) Try.underlying23 Try.type9 rfl rfl (bytes := 16) rfl rfl (Nat.succ_pos _) hS6 rfl (q := 0) rfl rfl hr2 hS6.view encTx_len encTx_one hsm2 (by omega) (by first | rfl | exact List.length_append.symm | simp) (List.flatMap_append).symm (fun _ => rfl) ?_
    intro v7 w5 ho4 hS7
    obtain ⟨a4, cap4, hv1, hv1c⟩ := vec_anyc (hS7.get (i := 2) rfl)
    subst hv1
    obtain ⟨a5, cap5, hv2, hv2c⟩ := vec_anyc (hS7.get (i := 0) rfl)
    subst hv2
    refine o_bslice (cs := [(.slice a4 r2_.length cap4), (.slice a2 raw_p.length cap2), (.slice a5 (r2_ ++ raw_p).length cap5)]) (e := 23) hS7 (fun _ => by kernel_rfl) ?_
    intro b1 w6 hS8
    obtain ⟨σ2, hS9, hsub2, hr7⟩ := hS8.peek (i := 3) rfl (notin0 _) encTx_len hl1
    obtain ⟨σ3, hS10, hsub3, hr8⟩ := hS9.peek (i := 1) rfl (notin0 _) encTx_len hsm2
    obtain ⟨σ4, hS11, hsub4, hf1⟩ := hS10.freeze' (i := 0) rfl (notin0 _) rfl
    have hr9 : RSl 1 (RSs 1 (REnc encTx)) σ4 (.slice (some ⟨b1, 0, none⟩) 3 3) [r2_, raw_p, r2_ ++ raw_p] := RSl.ofLit (hS10.get (i := 0) rfl) (hf1 _ rfl) (.cons rfl (RSs.mk (RSl.menc (Sub.trans hsub3 hsub4) hr7)) (.cons rfl (RSs.mk (RSl.menc (Sub.trans (Sub.trans hsub2 hsub3) hsub4) hr2)) (.cons rfl (RSs.mk (RSl.menc hsub4 hr8)) .nil))) rfl (by omega)
    refine o_len_slice rfl Try.underlying28 (o_move (v := (.int .i64 (0 : Int))) rfl (wpList_nil (then_n (wp_block ?_))))
    obtain ⟨σ5, hS12, hsub5, hr10⟩ := hS11.peek (i := 0) rfl (notin0 _) encEd_len hl2
    obtain ⟨a6, cap6, rfl⟩ := hr10.shape
    refine lp_loop1 (fun k_3 f z => ∃ (σ6 : Hv) (g : Fr), f = (upd (upd (upd (upd (upd g 5 (.slice a3 e_p.length cap3)) 14 (.slice a6 r3_.length cap6)) 46 (.slice (some ⟨b1, 0, none⟩) 3 3)) 47 (.int .i64 (3 : Int))) 48 (.int .i64 ((k_3 : Nat) : Int))) ∧ St ⟨w, σ, []⟩ z σ6 [] ∧ Sub σ5 σ6) hP ⟨σ5, _, (upd_in rfl (upd_in rfl (upd_in rfl (upd_in rfl (upd_in rfl rfl))))), hS12, (Sub.refl _)⟩ ?_
    clear hP
    rintro k_3 Y4 hP f w7 ⟨σ6, g, rfl, hS13, hsub6⟩
    refine seq_reg (o_lss (r := (decide (((k_3 : Nat) : Int) < (3 : Int)))) rfl rfl rfl (wpList_nil (then_n (wp_seq ?_))))
    refine if_d (((k_3 : Nat) : Int) < (3 : Int)) rfl (fun ht3 => ?_) (fun ht3 => ?_)
    ·
     replace hP := hP.1 ht3
     refine wp_skip (then_n (wp_seq (wp_block (seq_reg ?_))))
     obtain ⟨x1_, hx1, hP⟩ := hP
     obtain ⟨ad1, cs1, ha1, hl3, hr11, hR1, hlt1⟩ := RSl.at hr9 hx1
     obtain ⟨v8, rfl, hr12⟩ := hR1
     obtain ⟨a7, cap7, rfl⟩ := hr12.shape
     refine o_iaddr_slice (k := k_3) (a' := (ad1.add (k_3 * 1))) (congrArg (fun z => Value.slice z _ _) ha1) rfl rfl hlt1 Try.underlying28 Try.sizeOf23 rfl (o_load (v := (.slice a7 x1_.length cap7)) rfl Try.isAgg23 (hr11.cell (View.of (Sub.trans hsub5 hsub6) hS13.view) 0 rfl rfl) (o_assign (v := (.slice a7 x1_.length cap7)) rfl (wpList_nil (then_n (seq_reg (o_move (v := (.slice a6 r3_.length cap6)) rfl (o_move (v := (.slice a3 e_p.length cap3)) rfl (o_move (v := (.slice a6 r3_.length cap6)) rfl ?_))))))))
     have hS14 := hS13.addNil 40 2
     obtain ⟨hsm3, hP⟩ := hP
     refine o_appR (enc := encEd) (l := r3_) (Ms := fun v9 => [vec v9 40 2 r3_.length ((r3_).flatMap encEd)]) (k' := r3_.length) (xs' := (r3_).flatMap encEd) Try.underlying24 Try.type40 rfl rfl (bytes := 32) rfl rfl (Nat.succ_pos _) hS14 rfl (q := 0) rfl rfl hr10 (View.of hsub6 hS14.view) encEd_len encEd_one hsm3 (by omega) (by first | rfl | exact List.length_append.symm | simp) (List.nil_append _) (fun _ => rfl) ?_
     intro v9 w8 ho5 hS15
     refine o_move (v := (.slice a3 e_p.length cap3)) rfl ?_
     obtain ⟨hsm4, hP⟩ := hP
     refine o_appR (enc := encEd) (l := e_p) (Ms := fun v10 => [vec v10 40 2 ((r3_ ++ e_p).length) ((r3_ ++ e_p).flatMap encEd)]) (k' := (r3_ ++ e_p).length) (xs' := (r3_ ++ e_p).flatMap encEd) Try.underlying24 Try.type40 rfl rfl (bytes := 32) rfl rfl (Nat.succ_pos _) hS15 rfl (q := 0) rfl rfl hr3 (View.of (Sub.trans (Sub.trans (Sub.trans (Sub.trans hsub2 hsub3) hsub4) hsub5) hsub6) hS15.view) encEd_len encEd_one hsm4 (by omega) (by first | rfl | exact List.length_append.symm | simp) (List.flatMap_append).symm (fun _ => rfl) ?_
     intro v10 w9 ho6 hS16
     obtain ⟨a8, cap8, hv3, hv3c⟩ := vec_anyc (hS16.get (i := 0) rfl)
     subst hv3
     refine o_bslice (cs := [(.slice a6 r3_.length cap6), (.slice a3 e_p.length cap3), (.slice a8 (r3_ ++ e_p).length cap8)]) (e := 24) hS16 (fun _ => by kernel_rfl) ?_
     intro b2 w10 hS17
     obtain ⟨σ7, hS18, hsub7, hr13⟩ := hS17.peek (i := 1) rfl (notin0 _) encEd_len hsm4
     obtain ⟨σ8, hS19, hsub8, hf2⟩ := hS18.freeze' (i := 0) rfl (notin0 _) rfl
     have hr14 : RSl 1 (RSs 2 (REnc encEd)) σ8 (.slice (some ⟨b2, 0, none⟩) 3 3) [r3_, e_p, r3_ ++ e_p] := RSl.ofLit (hS18.get (i := 0) rfl) (hf2 _ rfl) (.cons rfl (RSs.mk (RSl.menc (Sub.trans (Sub.trans hsub6 hsub7) hsub8) hr10)) (.cons rfl (RSs.mk (RSl.menc (Sub.trans (Sub.trans (Sub.trans (Sub.trans (Sub.trans (Sub.trans hsub2 hsub3) hsub4) hsub5) hsub6) hsub7) hsub8) hr3)) (.cons rfl (RSs.mk (RSl.menc hsub8 hr13)) .nil))) rfl (by omega)
     refine o_len_slice rfl Try.underlying29 (o_move (v := (.int .i64 (0 : Int))) rfl (wpList_nil (then_n (wp_block ?_))))
     refine lp_loop1 (fun k_5 f z => ∃ (σ9 : Hv) (g : Fr), f = (upd (upd (upd (upd (upd (upd (upd (upd (upd g 5 (.slice a3 e_p.length cap3)) 14 (.slice a6 r3_.length cap6)) 16 (.slice a7 x1_.length cap7)) 46 (.slice (some ⟨b1, 0, none⟩) 3 3)) 47 (.int .i64 (3 : Int))) 48 (.int .i64 ((k_3 : Nat) : Int))) 58 (.slice (some ⟨b2, 0, none⟩) 3 3)) 59 (.int .i64 (3 : Int))) 60 (.int .i64 ((k_5 : Nat) : Int))) ∧ St ⟨w, σ, []⟩ z σ9 [] ∧ Sub σ8 σ9) hP ⟨σ8, _, (upd_in rfl (upd_in rfl (upd_in rfl (upd_in rfl (upd_in rfl (upd_in rfl (upd_in rfl (upd_in rfl (upd_in rfl rfl))))))))), hS19, (Sub.refl _)⟩ ?_
     clear hP
     rintro k_5 Y5 hP f w11 ⟨σ9, g, rfl, hS20, hsub9⟩
     refine seq_reg (o_lss (r := (decide (((k_5 : Nat) : Int) < (3 : Int)))) rfl rfl rfl (wpList_nil (then_n (wp_seq ?_))))
     refine if_d (((k_5 : Nat) : Int) < (3 : Int)) rfl (fun ht4 => ?_) (fun ht4 => ?_)
     ·
      replace hP := hP.1 ht4
      refine wp_skip (then_n (wp_seq (wp_block (seq_reg ?_))))
      obtain ⟨x2_, hx2, hP⟩ := hP
      obtain ⟨ad2, cs2, ha2, hl4, hr15, hR2, hlt2⟩ := RSl.at hr14 hx2
      obtain ⟨v11, rfl, hr16⟩ := hR2
      obtain ⟨a9, cap9, rfl⟩ := hr16.shape
      refine o_iaddr_slice (k := k_5) (a' := (ad2.add (k_5 * 1))) (congrArg (fun z => Value.slice z _ _) ha2) rfl rfl hlt2 Try.underlying29 Try.sizeOf24 rfl (o_load (v := (.slice a9 x2_.length cap9)) rfl Try.isAgg24 (hr15.cell (View.of hsub9 hS20.view) 0 rfl rfl) (o_assign (v := (.slice a9 x2_.length cap9)) rfl (wpList_nil (then_n (seq_reg (o_move (v := (.slice a7 x1_.length cap7)) rfl (o_move (v := (.slice a9 x2_.length cap9)) rfl ?_)))))))
      obtain ⟨Y6, hK4, hc4⟩ := hP
      refine o_call (args := [(.slice a7 x1_.length cap7), (.slice a9 x2_.length cap9)]) rfl Try.call10 (Calls.mono (w_graph_Order x1_ x2_ (.slice a7 x1_.length cap7) (.slice a9 x2_.length cap9) hS20.view (RSl.menc (Sub.trans (Sub.trans (Sub.trans (Sub.trans hsub5 hsub6) hsub7) hsub8) hsub9) hr12) (RSl.menc hsub9 hr16) hc4) ?_)
      rintro _ w12 ⟨r4_, r5_, v12, rfl, hg4, hl5, ho7, hY4⟩
      refine ⟨_, rfl, ?_⟩
      have hS21 := hS20.growAdd hg4 (o := vec v12 9 1 r4_.length ((r4_).flatMap encTx)) ho7
      replace hP := hK4 r4_ r5_ hY4
      refine o_move (v := (.tuple #[v12, (.int .i64 r5_)])) rfl (o_extract (v := v12) rfl rfl (o_extract (v := (.int .i64 r5_)) rfl rfl (o_assign (v := v12) rfl (o_assign (v := (.int .i64 r5_)) rfl (wpList_nil (then_n (seq_reg (o_move (v := (.slice a7 x1_.length cap7)) rfl (o_move (v := (.slice a9 x2_.length cap9)) rfl ?_)))))))))
      obtain ⟨Y7, hK5, hc5⟩ := hP
      refine o_call (args := [(.slice a7 x1_.length cap7), (.slice a9 x2_.length cap9)]) rfl Try.call11 (Calls.mono (w_ref9_Order x1_ x2_ (.slice a7 x1_.length cap7) (.slice a9 x2_.length cap9) hS21.view (RSl.menc (Sub.trans (Sub.trans (Sub.trans (Sub.trans hsub5 hsub6) hsub7) hsub8) hsub9) hr12) (RSl.menc hsub9 hr16) hc5) ?_)
      rintro _ w13 ⟨r6_, r7_, v13, rfl, hg5, hl6, ho8, hY5⟩
      refine ⟨_, rfl, ?_⟩
      have hS22 := hS21.growAdd hg5 (o := vec v13 9 1 r6_.length ((r6_).flatMap encTx)) ho8
      replace hP := hK5 r6_ r7_ hY5
      refine o_move (v := (.tuple #[v13, (.int .i64 r7_)])) rfl (o_extract (v := v13) rfl rfl (o_extract (v := (.int .i64 r7_)) rfl rfl (o_assign (v := v13) rfl (o_assign (v := (.int .i64 r7_)) rfl (wpList_nil (then_n (seq_reg (o_move (v := (.int .i64 r5_)) rfl (o_move (v := (.int .i64 r7_)) rfl (o_neq (r := (!decide (r5_ = r7_))) rfl rfl rfl ?_))))))))))
      by_cases hb2 : r5_ = r7_
      ·
       replace hP := hP.1 hb2
       refine o_move (v := (.bool false)) (congrArg Value.bool (congrArg Bool.not (decide_eq_true hb2))) (o_on rfl rfl (o_move (v := v12) rfl (o_on rfl rfl (o_move (v := v13) rfl (o_on rfl rfl ?_)))))
       obtain ⟨σ10, hS23, hsub10, hr19⟩ := hS22.peek (i := 1) rfl (notin0 _) encTx_len hl5
       obtain ⟨σ11, hS24, hsub11, hr20⟩ := hS23.peek (i := 0) rfl (notin0 _) encTx_len hl6
       obtain ⟨Y8, hK6, hc6⟩ := hP
       refine o_call (args := [v12, v13]) rfl Try.call12 (Calls.mono (w_ref1_Same r4_ r6_ v12 v13 hS24.view (RSl.menc hsub11 hr19) hr20 hc6) ?_)
       rintro _ w14 ⟨r8_, rfl, hg6, hY6⟩
       refine ⟨_, rfl, ?_⟩
       have hg6b := hg6.back (Sub.trans hsub10 hsub11)
       have hS25 := hS22.grow hg6b
       replace hP := hK6 r8_ hY6
       refine o_on rfl rfl (o_not (r := (!r8_)) rfl rfl (o_pick_f (v := (.bool (!r8_))) rfl rfl (wpList_nil (then_n ?_))))
       refine if_nb rfl (fun ht5 => ?_) (fun ht5 => ?_)
       ·
        replace hP := hP.2 (by first | (rw [ht5]; exact Bool.false_ne_true) | simp [ht5])
        refine seq_reg (o_assign (v := (.bool false)) rfl (wpList_nil (then_n (wp_ret (blk_r (then_r (then_r (blk_r (blk_r (then_r (then_r (blk_r (then_r (ret1 rfl (show ev _ _ _ = (.bool false) from rfl) ?_))))))))))))))
        exact ⟨false, rfl, hS25.done.forget, hP⟩
       ·
        replace hP := hP.1 ht5
        refine wp_skip (blk_n (then_n (one_reg ?_)))
        obtain ⟨hi1, hP⟩ := hP
        refine o_add (r := ((k_5 + 1 : Nat) : Int)) rfl rfl (nwi (by omega) hi1) (o_move (v := (.int .i64 ((k_5 + 1 : Nat) : Int))) rfl (wpList_nil (then_n ?_)))
        exact ⟨k_5 + 1, _, rfl, hP, σ9, _, (upd_in rfl (upd_in rfl (upd_in rfl (upd_in rfl (upd_in rfl (upd_in rfl (upd_in rfl (upd_in rfl (upd_in rfl rfl))))))))), (hS25.sublist (ms' := []) (List.nil_sublist _)), hsub9⟩
      ·
       replace hP := hP.2 hb2
       refine o_move (v := (.bool true)) (congrArg Value.bool (congrArg Bool.not (decide_eq_false hb2))) (o_off rfl rfl (o_off rfl rfl (o_off rfl rfl (o_off rfl rfl (o_pick_t (v := (.bool true)) rfl rfl (wpList_nil (then_n (if_t rfl (seq_reg (o_assign (v := (.bool false)) rfl (wpList_nil (then_n (wp_ret (blk_r (then_r (then_r (blk_r (blk_r (then_r (then_r (blk_r (then_r (ret1 rfl (show ev _ _ _ = (.bool false) from rfl) ?_)))))))))))))))))))))))
       exact ⟨false, rfl, hS22.done.forget, hP⟩
     ·
      replace hP := hP.2 ht4
      refine wp_exit (then_e (then_e (blk_hit (blk_n (then_n (one_reg ?_))))))
      obtain ⟨hi2, hP⟩ := hP
      refine o_add (r := ((k_3 + 1 : Nat) : Int)) rfl rfl (nwi (by omega) hi2) (o_move (v := (.int .i64 ((k_3 + 1 : Nat) : Int))) rfl (wpList_nil (then_n ?_)))
      exact ⟨k_3 + 1, _, rfl, hP, σ9, _, (upd_in rfl (upd_in rfl (upd_in rfl (upd_in rfl (upd_in rfl rfl))))), hS20, (Sub.trans (Sub.trans (Sub.trans hsub6 hsub7) hsub8) hsub9)⟩
    ·
     replace hP := hP.2 ht3
     refine wp_exit (then_e (then_e (blk_hit (then_n (seq_reg (o_assign (v := (.bool true)) rfl (wpList_nil (then_n (wp_ret (ret1 rfl (show ev _ _ _ = (.bool true) from rfl) ?_))))))))))
     exact ⟨true, rfl, hS13.done.forget, hP⟩

end Go.Proofs.Ytegcjfidfinogaa
