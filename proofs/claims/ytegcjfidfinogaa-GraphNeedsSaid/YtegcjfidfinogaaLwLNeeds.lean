/- A call does what its plain meaning says, and leaves the memory that was there as it was: law10_GraphNeeds. -/
import Derived.Test.YtegcjfidfinogaaRows
import Derived.Test.YtegcjfidfinogaaFlLift
import Derived.Test.YtegcjfidfinogaaPuLNeeds
import Derived.KernelRfl
import Derived.Test.YtegcjfidfinogaaLwC
namespace Go.Proofs.Ytegcjfidfinogaa
open Go Go.RowKit Go.Fl
set_option maxHeartbeats 2000000 in
theorem w_law10_GraphNeeds {σ : Hv} {w : World} (n_p : Int) (turn_p : Int) (codes_p : (List UInt8)) (up_p : Bool) (raw_p : ByteArray) (e_p : (List (ByteArray × ByteArray))) (v1 : Value) (v2 : Value) {K : Bool → Prop} (hV : View σ w) (hr1 : RSl 1 RU8 σ v1 codes_p) (hr2 : RSl 2 (REnc encEd) σ v2 e_p) (hP : P_law10_GraphNeeds n_p turn_p codes_p up_p raw_p e_p K) :
    Calls Try.prog 6 #[(.int .i64 n_p), (.int .i64 turn_p), v1, (.bool (up_p)), (.string raw_p), v2] w (fun e w1 => ∃ (r1 : Bool), e = .returned (.bool (r1)) ∧ Grow [] σ w σ w1 ∧ K r1) := by
 unfold P_law10_GraphNeeds at hP
 obtain ⟨a1, cap1, rfl⟩ := hr1.shape
 obtain ⟨a2, cap2, rfl⟩ := hr2.shape
 refine enter Try.func6 rfl rfl rfl ?_
 have hS := St.start hV
 refine seq_reg (o_assign (v := (.bool false)) rfl (wpList_nil (then_n (wp_seq (seq_reg ?_)))))
 obtain ⟨Y1, hK1, hc1⟩ := hP
 refine o_call (args := []) rfl Try.call7 (Calls.mono (w_law10_awake hS.view hc1) ?_)
 rintro _ w1 ⟨r1_, rfl, hg1, hY1⟩
 refine ⟨_, rfl, ?_⟩
 have hS1 := hS.grow hg1
 replace hP := hK1 r1_ hY1
 refine o_not (r := (!r1_)) rfl rfl (wpList_nil (then_n ?_))
 refine if_nb rfl (fun ht1 => ?_) (fun ht1 => ?_)
 ·
  replace hP := hP.2 (by first | (rw [ht1]; exact Bool.false_ne_true) | simp [ht1])
  refine seq_reg (o_assign (v := (.bool false)) rfl (wpList_nil (then_n (wp_ret (then_r (ret1 rfl (show ev _ _ _ = (.bool false) from rfl) ?_))))))
  exact ⟨false, rfl, hS1.done.forget, hP⟩
 ·
  replace hP := hP.1 ht1
  refine wp_skip (then_n (wp_seq (seq_reg (o_move (v := (.slice a2 e_p.length cap2)) rfl (o_len_slice rfl Try.underlying24 ?_)))))
  have hlen1 := RSl.len63 hr2
  replace hP := hP hlen1
  refine o_gtr (r := (decide ((30 : Int) < ((e_p.length : Nat) : Int)))) rfl rfl rfl (wpList_nil (then_n ?_))
  refine if_d ((30 : Int) < ((e_p.length : Nat) : Int)) rfl (fun ht2 => ?_) (fun ht2 => ?_)
  ·
   replace hP := hP.1 ht2
   refine seq_reg (o_assign (v := (.bool true)) rfl (wpList_nil (then_n (wp_ret (then_r (ret1 rfl (show ev _ _ _ = (.bool true) from rfl) ?_))))))
   exact ⟨true, rfl, hS1.done.forget, hP⟩
  ·
   replace hP := hP.2 ht2
   refine wp_skip (then_n (seq_reg (o_move (v := (.int .i64 n_p)) rfl (o_move (v := (.int .i64 turn_p)) rfl ?_))))
   obtain ⟨Y2, hK2, hc2⟩ := hP
   refine o_call (args := [(.int .i64 n_p), (.int .i64 turn_p)]) rfl Try.call8 (Calls.mono (w_law10_nodes n_p turn_p hS1.view hc2) ?_)
   rintro _ w2 ⟨r2_, v3, rfl, hg2, hl1, ho1, hY2⟩
   refine ⟨_, rfl, ?_⟩
   have hS2 := hS1.growAdd hg2 (o := vec v3 9 1 r2_.length ((r2_).flatMap encTx)) ho1
   replace hP := hK2 r2_ hY2
   refine o_assign (v := v3) rfl (wpList_nil (then_n (seq_reg (o_move (v := v3) rfl (o_move (v := (.slice a1 codes_p.length cap1)) rfl (o_move (v := (.bool (up_p))) rfl ?_))))))
   obtain ⟨σ1, hS3, hsub1, hr4⟩ := hS2.peek (i := 0) rfl (notin0 _) encTx_len hl1
   obtain ⟨Y3, hK3, hc3⟩ := hP
   refine o_call (args := [v3, (.slice a1 codes_p.length cap1), (.bool (up_p))]) rfl Try.call9 (Calls.mono (w_law10_edges r2_ codes_p (up_p) v3 (.slice a1 codes_p.length cap1) hS3.view hr4 (RSl.mono (R := RU8) RU8.mono hsub1 hr1) hc3) ?_)
   rintro _ w3 ⟨r3_, v4, rfl, hg3, hl2, ho2, hY3⟩
   refine ⟨_, rfl, ?_⟩
   have hg3b := hg3.back hsub1
   have hS4 := hS2.growAdd hg3b (o := vec v4 40 2 r3_.length ((r3_).flatMap encEd)) (fresh_back ho2 hsub1)
   replace hP := hK3 r3_ hY3
   refine o_move (v := (.slice a2 e_p.length cap2)) rfl ?_
   obtain ⟨hsm1, hP⟩ := hP
   refine o_appR (enc := encEd) (l := e_p) (Ms := fun v5 => [vec v5 40 2 ((r3_ ++ e_p).length) ((r3_ ++ e_p).flatMap encEd), vec v3 9 1 r2_.length ((r2_).flatMap encTx)]) (k' := (r3_ ++ e_p).length) (xs' := (r3_ ++ e_p).flatMap encEd) Try.underlying24 Try.type40 rfl rfl (bytes := 32) rfl rfl (Nat.succ_pos _) hS4 rfl (q := 0) rfl rfl hr2 hS4.view encEd_len encEd_one hsm1 (by omega) (by first | rfl | exact List.length_append.symm | simp) (List.flatMap_append).symm (fun _ => rfl) ?_
   intro v5 w4 ho3 hS5
   refine o_assign (v := v5) rfl (wpList_nil (then_n (wp_seq (seq_reg (o_assign (v := (.int .i64 (0 : Int))) rfl (wpList_nil (then_n (wp_block ?_))))))))
   obtain ⟨σ2, hS6, hsub2, hr6⟩ := hS5.peek (i := 0) rfl (notin0 _) encEd_len hsm1
   obtain ⟨a3, cap3, rfl⟩ := hr6.shape
   refine lp_loop1 (fun i_3 f z => ∃ (σ3 : Hv) (g : Fr), f = (upd (upd (upd (upd g 4 (.string raw_p)) 13 v3) 14 (.slice a3 (r3_ ++ e_p).length cap3)) 15 (.int .i64 ((i_3 : Nat) : Int))) ∧ St ⟨w, σ, []⟩ z σ3 [vec v3 9 1 r2_.length ((r2_).flatMap encTx)] ∧ Sub σ2 σ3) hP ⟨σ2, _, (upd_in rfl (upd_in rfl (upd_in rfl (upd_in rfl rfl)))), hS6, (Sub.refl _)⟩ ?_
   clear hP
   rintro i_3 Y4 hP f w5 ⟨σ3, g, rfl, hS7, hsub3⟩
   refine wp_seq (seq_reg (o_move (v := (.int .i64 ((i_3 : Nat) : Int))) rfl (o_move (v := v3) rfl (o_len_vec hS7 rfl (i := 0) rfl Try.underlying23 ?_))))
   have hlen2 : r2_.length ≤ 9223372036854775807 := by have := hl1; unfold Sml at this; omega
   replace hP := hP hlen2
   refine o_lss (r := (decide (((i_3 : Nat) : Int) < ((r2_.length : Nat) : Int)))) rfl rfl rfl (wpList_nil (then_n ?_))
   refine if_d (((i_3 : Nat) : Int) < ((r2_.length : Nat) : Int)) rfl (fun ht3 => ?_) (fun ht3 => ?_)
   ·
    replace hP := hP.1 ht3
    refine wp_skip (then_n (wp_seq (wp_block (wp_seq (dr (fun z => St ⟨w, σ, []⟩ z σ3 [vec v3 9 1 r2_.length ((r2_).flatMap encTx)]) (by kernel_rfl) rfl ?_)))))
    have hS8 := hS7.drew
    refine dt 0 1 (v := (.slice a3 (r3_ ++ e_p).length cap3)) (by kernel_rfl) rfl rfl (fun _ _ _ h => h) hS8 (fun _ _ _ hK => o_move (v := (.slice a3 (r3_ ++ e_p).length cap3)) rfl ⟨rfl, hK⟩) (dt 1 3 (v := v3) (by kernel_rfl) rfl rfl (fun _ _ _ h => h) hS8 (fun _ _ _ hK => o_move (v := v3) rfl ⟨rfl, hK⟩) (dt 2 7 (v := (.int .i64 ((i_3 : Nat) : Int))) (by kernel_rfl) rfl rfl (fun _ _ _ h => h) hS8 (fun _ _ _ hK => o_move (v := (.int .i64 ((i_3 : Nat) : Int))) rfl ⟨rfl, hK⟩) ?_))
    obtain ⟨x1_, hx1⟩ := getq (l := r2_) (k := i_3) (by have := ht3; omega)
    replace hP := hP x1_ hx1
    obtain ⟨g1, cp1, hv1⟩ := vec_posv (hS8.get (i := 0) rfl) (lt_of_getq hx1)
    refine dt 3 15 (v := (.pointer (some ⟨g1, i_3 * 1, none⟩))) (by kernel_rfl) rfl rfl (fun _ _ _ h => h) hS8 (fun _ _ _ hK => o_iaddr_slice (k := i_3) (a' := ⟨g1, i_3 * 1, none⟩) hv1 rfl rfl (lt_of_getq hx1) Try.underlying23 Try.sizeOf9 (by simp [addr_lit]) ⟨rfl, hK⟩) (dt 4 31 (v := (.string x1_)) (by kernel_rfl) rfl rfl (fun _ _ _ h => h) hS8 (fun _ hJ _ hK => o_load (v := (.string x1_)) rfl Try.isAgg9 (vec_cellv encTx_len (j := 0) hv1 (hJ.get (i := 0) rfl) hx1 rfl) ⟨rfl, hK⟩) (dt 6 95 (v := (.slice a3 (r3_ ++ e_p).length cap3)) (by kernel_rfl) rfl rfl (fun _ _ _ h => h) hS8 (fun _ _ _ hK => o_move (v := (.slice a3 (r3_ ++ e_p).length cap3)) rfl ⟨rfl, hK⟩) (dt 7 223 (v := v3) (by kernel_rfl) rfl rfl (fun _ _ _ h => h) hS8 (fun _ _ _ hK => o_move (v := v3) rfl ⟨rfl, hK⟩) (dt 8 479 (v := (.int .i64 ((i_3 : Nat) : Int))) (by kernel_rfl) rfl rfl (fun _ _ _ h => h) hS8 (fun _ _ _ hK => o_move (v := (.int .i64 ((i_3 : Nat) : Int))) rfl ⟨rfl, hK⟩) ?_))))
    obtain ⟨g2, cp2, hv2⟩ := vec_posv (hS8.get (i := 0) rfl) (lt_of_getq hx1)
    refine dt 9 991 (v := (.pointer (some ⟨g2, i_3 * 1, none⟩))) (by kernel_rfl) rfl rfl (fun _ _ _ h => h) hS8 (fun _ _ _ hK => o_iaddr_slice (k := i_3) (a' := ⟨g2, i_3 * 1, none⟩) hv2 rfl rfl (lt_of_getq hx1) Try.underlying23 Try.sizeOf9 (by simp [addr_lit]) ⟨rfl, hK⟩) (dt 10 2015 (v := (.string x1_)) (by kernel_rfl) rfl rfl (fun _ _ _ h => h) hS8 (fun _ hJ _ hK => o_load (v := (.string x1_)) rfl Try.isAgg9 (vec_cellv encTx_len (j := 0) hv2 (hJ.get (i := 0) rfl) hx1 rfl) ⟨rfl, hK⟩) (d1 5 2047 (by kernel_rfl) rfl ?_))
    obtain ⟨Y5, hK4, hc4⟩ := hP
    refine o_call (args := [(.slice a3 (r3_ ++ e_p).length cap3), (.string x1_)]) rfl Try.call14 (Calls.mono (w_graph_Needs (r3_ ++ e_p) x1_ (.slice a3 (r3_ ++ e_p).length cap3) hS8.view (RSl.menc hsub3 hr6) hc4) ?_)
    rintro _ w6 ⟨r4_, v6, rfl, hg4, hl3, ho4, hY4⟩
    refine ⟨_, rfl, ?_⟩
    have hS9 := hS8.growAdd hg4 (o := vec v6 9 1 r4_.length ((r4_).flatMap encTx)) ho4
    replace hP := hK4 r4_ hY4
    refine wpList_nil ?_
    refine ⟨rfl, (hS9.sublist (.cons _ (List.Sublist.refl _))), ?_⟩
    refine d1 11 4095 (by kernel_rfl) rfl ?_
    obtain ⟨Y6, hK5, hc5⟩ := hP
    refine o_call (args := [(.slice a3 (r3_ ++ e_p).length cap3), (.string x1_)]) rfl Try.call16 (Calls.mono (w_ref9_Needs (r3_ ++ e_p) x1_ (.slice a3 (r3_ ++ e_p).length cap3) hS9.view (RSl.menc hsub3 hr6) hc5) ?_)
    rintro _ w7 ⟨r5_, v7, σ4, rfl, hg5, hr8, hY5⟩
    refine ⟨_, rfl, ?_⟩
    have hS10 := hS9.grow hg5
    replace hP := hK5 r5_ hY5
    obtain ⟨a4, cap4, rfl⟩ := hr8.shape
    refine wpList_nil ?_
    refine ⟨rfl, ((hS10.sublist (.cons _ (List.Sublist.refl _))).less hS8 hg5.sub), wpJ_weak (J' := fun z => St ⟨w, σ, []⟩ z σ4 [vec v3 9 1 r2_.length ((r2_).flatMap encTx)]) (fun w h => (h.less hS8 hg5.sub).sublist (List.Sublist.refl _)) _ _ _ _ ?_⟩
    refine d1 12 8191 (by kernel_rfl) rfl ?_
    obtain ⟨σ5, hS11, hsub4, hr9⟩ := hS10.peek (i := 0) rfl (notin0 _) encTx_len hl3
    obtain ⟨Y7, hK6, hc6⟩ := hP
    refine o_call (args := [v6, (.slice a4 r5_.length cap4)]) rfl Try.call12 (Calls.mono (w_ref1_Same r4_ r5_ v6 (.slice a4 r5_.length cap4) hS11.view hr9 (RSl.menc hsub4 hr8) hc6) ?_)
    rintro _ w8 ⟨r6_, rfl, hg6, hY6⟩
    refine ⟨_, rfl, ?_⟩
    have hg6b := hg6.back hsub4
    have hS12 := hS10.grow hg6b
    replace hP := hK6 r6_ hY6
    refine wpList_nil ?_
    refine ⟨rfl, (hS12.sublist (.cons _ (List.Sublist.refl _))), wpJ_weak (J' := fun z => St ⟨w, σ, []⟩ z σ4 [vec v6 9 1 r4_.length ((r4_).flatMap encTx), vec v3 9 1 r2_.length ((r2_).flatMap encTx)]) (fun w h => h.sublist (.cons _ (List.Sublist.refl _))) _ _ _ _ ?_⟩
    refine dt 13 16383 (v := (.bool (!r6_))) (by kernel_rfl) rfl rfl (fun _ _ _ h => h) hS12 (fun _ _ _ hK => o_not (r := (!r6_)) rfl rfl ⟨rfl, hK⟩) (dz (by kernel_rfl) (then_n ?_))
    refine if_nb rfl (fun ht4 => ?_) (fun ht4 => ?_)
    ·
     replace hP := hP.2 (by first | (rw [ht4]; exact Bool.false_ne_true) | simp [ht4])
     refine seq_reg (o_assign (v := (.bool false)) rfl (wpList_nil (then_n (wp_ret (blk_r (then_r (then_r (blk_r (then_r (ret1 rfl (show ev _ _ _ = (.bool false) from rfl) ?_))))))))))
     exact ⟨false, rfl, hS12.done.forget, hP⟩
    ·
     replace hP := hP.1 ht4
     refine wp_skip (blk_n (then_n (one_reg (o_move (v := (.int .i64 ((i_3 : Nat) : Int))) rfl (o_add (r := ((i_3 + 1 : Nat) : Int)) rfl rfl (nw (by omega) (by omega) (by have := hlen2; omega)) (o_assign (v := (.int .i64 ((i_3 + 1 : Nat) : Int))) rfl (wpList_nil (then_n ?_))))))))
     have hS13 := hS12.front 1 rfl (ms' := [vec v3 9 1 r2_.length ((r2_).flatMap encTx), vec v6 9 1 r4_.length ((r4_).flatMap encTx)]) rfl
     exact ⟨i_3 + 1, _, rfl, hP, σ4, _, (upd_in rfl (upd_in rfl (upd_in rfl (upd_in rfl rfl)))), (hS13.keep 1 (ms' := [vec v3 9 1 r2_.length ((r2_).flatMap encTx)]) rfl), (Sub.trans hsub3 hg5.sub)⟩
   ·
    replace hP := hP.2 ht3
    refine wp_exit (then_e (then_e (blk_hit (then_n (seq_reg (o_move (v := v3) rfl ?_))))))
    have hS14 := hS7.addNil 9 1
    obtain ⟨hsm2, hP⟩ := hP
    refine o_appV (enc := encTx) (l := r2_) (qy := 1) (Ms := fun v8 => [vec v8 9 1 r2_.length ((r2_).flatMap encTx), vec v3 9 1 r2_.length ((r2_).flatMap encTx)]) (k' := r2_.length) (xs' := (r2_).flatMap encTx) Try.underlying23 Try.type9 rfl rfl (bytes := 16) rfl rfl (Nat.succ_pos _) hS14 rfl (q := 0) rfl rfl rfl encTx_len encTx_one hsm2 (by omega) (by first | rfl | exact List.length_append.symm | simp) (List.nil_append _) (fun _ => rfl) ?_
    intro v8 w9 ho5 hS15
    refine o_move (v := (.string raw_p)) rfl (o_move (v := (.string raw_p)) rfl (o_bslice (cs := [(.string raw_p), (.string raw_p)]) (e := 9) hS15 (fun _ => by kernel_rfl) ?_))
    intro b1 w10 hS16
    obtain ⟨hsm3, hP⟩ := hP
    refine o_app (Ms := fun v9 => [blk b1 9 [(.string raw_p), (.string raw_p)], vec v9 9 1 ((r2_ ++ [raw_p, raw_p]).length) ((r2_ ++ [raw_p, raw_p]).flatMap encTx), vec v3 9 1 r2_.length ((r2_).flatMap encTx)]) (k' := (r2_ ++ [raw_p, raw_p]).length) (xs' := (r2_ ++ [raw_p, raw_p]).flatMap encTx) Try.underlying23 Try.type9 rfl rfl (bytes := 16) rfl rfl (Nat.succ_pos _) hS16 rfl (q := 1) rfl rfl rfl (blk_row (hS16.get (i := 0) rfl)) (ones rfl) hsm3 (by omega) (by first | rfl | exact List.length_append.symm | simp) (by simp [encTx]) (fun _ => rfl) ?_
    intro v9 w11 ho6 hS17
    have hS18 := hS17.drop 0 (ms' := [vec v9 9 1 ((r2_ ++ [raw_p, raw_p]).length) ((r2_ ++ [raw_p, raw_p]).flatMap encTx), vec v3 9 1 r2_.length ((r2_).flatMap encTx)]) rfl
    refine o_assign (v := v9) rfl (wpList_nil (then_n (seq_reg (o_move (v := (.slice a3 (r3_ ++ e_p).length cap3)) rfl (o_move (v := (.string raw_p)) rfl ?_)))))
    obtain ⟨Y8, hK7, hc7⟩ := hP
    refine o_call (args := [(.slice a3 (r3_ ++ e_p).length cap3), (.string raw_p)]) rfl Try.call14 (Calls.mono (w_graph_Needs (r3_ ++ e_p) raw_p (.slice a3 (r3_ ++ e_p).length cap3) hS18.view (RSl.menc hsub3 hr6) hc7) ?_)
    rintro _ w12 ⟨r7_, v10, rfl, hg7, hl4, ho7, hY7⟩
    refine ⟨_, rfl, ?_⟩
    have hS19 := hS18.growAdd hg7 (o := vec v10 9 1 r7_.length ((r7_).flatMap encTx)) ho7
    replace hP := hK7 r7_ hY7
    refine o_move (v := (.slice a3 (r3_ ++ e_p).length cap3)) rfl (o_move (v := (.string raw_p)) rfl ?_)
    obtain ⟨Y9, hK8, hc8⟩ := hP
    refine o_call (args := [(.slice a3 (r3_ ++ e_p).length cap3), (.string raw_p)]) rfl Try.call16 (Calls.mono (w_ref9_Needs (r3_ ++ e_p) raw_p (.slice a3 (r3_ ++ e_p).length cap3) hS19.view (RSl.menc hsub3 hr6) hc8) ?_)
    rintro _ w13 ⟨r8_, v11, σ6, rfl, hg8, hr11, hY8⟩
    refine ⟨_, rfl, ?_⟩
    have hS20 := hS19.grow hg8
    replace hP := hK8 r8_ hY8
    obtain ⟨a5, cap5, rfl⟩ := hr11.shape
    obtain ⟨σ7, hS21, hsub5, hr12⟩ := hS20.peek (i := 0) rfl (notin0 _) encTx_len hl4
    obtain ⟨Y10, hK9, hc9⟩ := hP
    refine o_call (args := [v10, (.slice a5 r8_.length cap5)]) rfl Try.call12 (Calls.mono (w_ref1_Same r7_ r8_ v10 (.slice a5 r8_.length cap5) hS21.view hr12 (RSl.menc hsub5 hr11) hc9) ?_)
    rintro _ w14 ⟨r9_, rfl, hg9, hY9⟩
    refine ⟨_, rfl, ?_⟩
    have hg9b := hg9.back hsub5
    have hS22 := hS20.grow hg9b
    replace hP := hK9 r9_ hY9
    rcases Bool.eq_false_or_eq_true (r9_) with hb1 | hb1
    ·
     replace hP := hP.1 hb1
     refine o_move (v := (.bool true)) (congrArg Value.bool hb1) (o_on rfl rfl (o_move (v := v3) rfl (o_on rfl rfl (o_move (v := (.slice a3 (r3_ ++ e_p).length cap3)) rfl (o_on rfl rfl ?_)))))
     obtain ⟨σ8, hS23, hsub6, hr13⟩ := hS22.peek (i := 2) rfl (notin0 _) encTx_len hl1
     obtain ⟨Y11, hK10, hc10⟩ := hP
     refine o_call (args := [v3, (.slice a3 (r3_ ++ e_p).length cap3)]) rfl Try.call15 (Calls.mono (w_graph_Cyclic r2_ (r3_ ++ e_p) v3 (.slice a3 (r3_ ++ e_p).length cap3) hS23.view hr13 (RSl.menc (Sub.trans (Sub.trans hsub3 hg8.sub) hsub6) hr6) hc10) ?_)
     rintro _ w15 ⟨r10_, v12, rfl, hg10, hl5, ho8, hY10⟩
     refine ⟨_, rfl, ?_⟩
     have hg10b := hg10.back hsub6
     have hS24 := hS22.growAdd hg10b (o := vec v12 9 1 r10_.length ((r10_).flatMap encTx)) (fresh_back ho8 hsub6)
     replace hP := hK10 r10_ hY10
     refine o_on rfl rfl (o_move (v := v3) rfl (o_on rfl rfl (o_move (v := (.slice a3 (r3_ ++ e_p).length cap3)) rfl (o_on rfl rfl ?_))))
     obtain ⟨σ9, hS25, hsub7, hr15⟩ := hS24.peek (i := 3) rfl (notin0 _) encTx_len hl1
     obtain ⟨a6, cap6, rfl⟩ := hr15.shape
     obtain ⟨Y12, hK11, hc11⟩ := hP
     refine o_call (args := [(.slice a6 r2_.length cap6), (.slice a3 (r3_ ++ e_p).length cap3)]) rfl Try.call17 (Calls.mono (w_ref9_Cyclic r2_ (r3_ ++ e_p) (.slice a6 r2_.length cap6) (.slice a3 (r3_ ++ e_p).length cap3) hS25.view hr15 (RSl.menc (Sub.trans (Sub.trans hsub3 hg8.sub) hsub7) hr6) hc11) ?_)
     rintro _ w16 ⟨r11_, v13, σ10, rfl, hg11, hr16, hY11⟩
     refine ⟨_, rfl, ?_⟩
     have hS26 := hS25.grow hg11
     replace hP := hK11 r11_ hY11
     obtain ⟨a7, cap7, rfl⟩ := hr16.shape
     refine o_on rfl rfl ?_
     obtain ⟨σ11, hS27, hsub8, hr17⟩ := hS26.peek (i := 0) rfl (notin0 _) encTx_len hl5
     obtain ⟨Y13, hK12, hc12⟩ := hP
     refine o_call (args := [v12, (.slice a7 r11_.length cap7)]) rfl Try.call12 (Calls.mono (w_ref1_Same r10_ r11_ v12 (.slice a7 r11_.length cap7) hS27.view hr17 (RSl.menc hsub8 hr16) hc12) ?_)
     rintro _ w17 ⟨r12_, rfl, hg12, hY12⟩
     refine ⟨_, rfl, ?_⟩
     have hg12b := hg12.back hsub8
     have hS28 := hS26.grow hg12b
     replace hP := hK12 r12_ hY12
     refine o_pick_t (v := (.bool (r12_))) rfl rfl ?_
     rcases Bool.eq_false_or_eq_true (r12_) with hb2 | hb2
     ·
      replace hP := hP.1 hb2
      refine o_move (v := (.bool true)) (congrArg Value.bool hb2) (o_on rfl rfl (o_move (v := v9) rfl (o_on rfl rfl (o_move (v := (.slice a3 (r3_ ++ e_p).length cap3)) rfl (o_on rfl rfl ?_)))))
      obtain ⟨σ12, hS29, hsub9, hr18⟩ := hS28.peek (i := 2) rfl (notin0 _) encTx_len hsm3
      obtain ⟨Y14, hK13, hc13⟩ := hP
      refine o_call (args := [v9, (.slice a3 (r3_ ++ e_p).length cap3)]) rfl Try.call15 (Calls.mono (w_graph_Cyclic (r2_ ++ [raw_p, raw_p]) (r3_ ++ e_p) v9 (.slice a3 (r3_ ++ e_p).length cap3) hS29.view hr18 (RSl.menc (Sub.trans (Sub.trans (Sub.trans (Sub.trans hsub3 hg8.sub) hsub7) hg11.sub) hsub9) hr6) hc13) ?_)
      rintro _ w18 ⟨r13_, v14, rfl, hg13, hl6, ho9, hY13⟩
      refine ⟨_, rfl, ?_⟩
      have hg13b := hg13.back hsub9
      have hS30 := hS28.growAdd hg13b (o := vec v14 9 1 r13_.length ((r13_).flatMap encTx)) (fresh_back ho9 hsub9)
      replace hP := hK13 r13_ hY13
      refine o_on rfl rfl (o_move (v := v9) rfl (o_on rfl rfl (o_move (v := (.slice a3 (r3_ ++ e_p).length cap3)) rfl (o_on rfl rfl ?_))))
      obtain ⟨σ13, hS31, hsub10, hr20⟩ := hS30.peek (i := 3) rfl (notin0 _) encTx_len hsm3
      obtain ⟨a8, cap8, rfl⟩ := hr20.shape
      obtain ⟨Y15, hK14, hc14⟩ := hP
      refine o_call (args := [(.slice a8 (r2_ ++ [raw_p, raw_p]).length cap8), (.slice a3 (r3_ ++ e_p).length cap3)]) rfl Try.call17 (Calls.mono (w_ref9_Cyclic (r2_ ++ [raw_p, raw_p]) (r3_ ++ e_p) (.slice a8 (r2_ ++ [raw_p, raw_p]).length cap8) (.slice a3 (r3_ ++ e_p).length cap3) hS31.view hr20 (RSl.menc (Sub.trans (Sub.trans (Sub.trans (Sub.trans hsub3 hg8.sub) hsub7) hg11.sub) hsub10) hr6) hc14) ?_)
      rintro _ w19 ⟨r14_, v15, σ14, rfl, hg14, hr21, hY14⟩
      refine ⟨_, rfl, ?_⟩
      have hS32 := hS31.grow hg14
      replace hP := hK14 r14_ hY14
      obtain ⟨a9, cap9, rfl⟩ := hr21.shape
      refine o_on rfl rfl ?_
      obtain ⟨σ15, hS33, hsub11, hr22⟩ := hS32.peek (i := 0) rfl (notin0 _) encTx_len hl6
      obtain ⟨Y16, hK15, hc15⟩ := hP
      refine o_call (args := [v14, (.slice a9 r14_.length cap9)]) rfl Try.call12 (Calls.mono (w_ref1_Same r13_ r14_ v14 (.slice a9 r14_.length cap9) hS33.view hr22 (RSl.menc hsub11 hr21) hc15) ?_)
      rintro _ w20 ⟨r15_, rfl, hg15, hY15⟩
      refine ⟨_, rfl, ?_⟩
      have hg15b := hg15.back hsub11
      have hS34 := hS32.grow hg15b
      replace hP := hK15 r15_ hY15
      refine o_pick_t (v := (.bool (r15_))) rfl rfl (o_assign (v := (.bool (r15_))) rfl (wpList_nil (then_n (wp_ret (ret1 rfl (show ev _ _ _ = (.bool (r15_)) from rfl) ?_)))))
      exact ⟨(r15_), rfl, hS34.done.forget, hP⟩
     ·
      replace hP := hP.2 (by first | (rw [hb2]; exact Bool.false_ne_true) | simp [hb2])
      refine o_move (v := (.bool false)) (congrArg Value.bool hb2) (o_off rfl rfl (o_off rfl rfl (o_off rfl rfl (o_off rfl rfl (o_off rfl rfl (o_off rfl rfl (o_off rfl rfl (o_pick_f (v := (.bool false)) rfl rfl (o_assign (v := (.bool false)) rfl (wpList_nil (then_n (wp_ret (ret1 rfl (show ev _ _ _ = (.bool false) from rfl) ?_)))))))))))))
      exact ⟨false, rfl, hS28.done.forget, hP⟩
    ·
     replace hP := hP.2 (by first | (rw [hb1]; exact Bool.false_ne_true) | simp [hb1])
     refine o_move (v := (.bool false)) (congrArg Value.bool hb1) (o_off rfl rfl (o_off rfl rfl (o_off rfl rfl (o_off rfl rfl (o_off rfl rfl (o_off rfl rfl (o_off rfl rfl (o_pick_f (v := (.bool false)) rfl rfl (o_move (v := (.bool false)) rfl (o_off rfl rfl (o_off rfl rfl (o_off rfl rfl (o_off rfl rfl (o_off rfl rfl (o_off rfl rfl (o_off rfl rfl (o_pick_f (v := (.bool false)) rfl rfl (o_assign (v := (.bool false)) rfl (wpList_nil (then_n (wp_ret (ret1 rfl (show ev _ _ _ = (.bool false) from rfl) ?_))))))))))))))))))))))
     exact ⟨false, rfl, hS22.done.forget, hP⟩

end Go.Proofs.Ytegcjfidfinogaa
