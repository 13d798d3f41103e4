/- A call does what its plain meaning says, and leaves the memory that was there as it was: graph_table, graph_reach, graph_Needs, graph_Cyclic, graph_Order. -/
import Derived.Test.YtegcjfidfinogaaRows
import Derived.Test.YtegcjfidfinogaaFlLift
import Derived.Test.YtegcjfidfinogaaPuB
import Derived.KernelRfl
import Derived.Test.YtegcjfidfinogaaLwA
namespace Go.Proofs.Ytegcjfidfinogaa
open Go Go.RowKit Go.Fl
set_option maxHeartbeats 2000000 in
theorem w_graph_table {σ : Hv} {w : World} (edges_p : (List (ByteArray × ByteArray))) (v1 : Value) {K : (ByteArray → Option (List ByteArray)) → Prop} (hV : View σ w) (hr1 : RSl 2 (REnc encEd) σ v1 edges_p) (hP : P_graph_table edges_p K) :
    Calls Try.prog 34 #[v1] w (fun e w1 => ∃ (r1 : (ByteArray → Option (List ByteArray))) (v2 : Value) (σ1 : Hv), e = .returned v2 ∧ Grow [] σ w σ1 w1 ∧ RMp (RSl 1 (REnc encTx)) σ1 v2 r1 ∧ K r1) := by
 unfold P_graph_table at hP
 obtain ⟨a1, cap1, rfl⟩ := hr1.shape
 refine enter Try.func34 rfl rfl rfl ?_
 have hS := St.start hV
 refine seq_reg (o_assign (v := (.map none)) rfl (wpList_nil (then_n (seq_reg (o_makemapL 9 1 encTx hS ?_)))))
 intro b1 w1 hS1
 refine o_assign (v := (.map (some b1))) rfl (wpList_nil (then_n (wp_seq (seq_reg (o_move (v := (.slice a1 edges_p.length cap1)) rfl (o_len_slice rfl Try.underlying24 ?_))))))
 have hlen1 := RSl.len63 hr1
 replace hP := hP hlen1
 refine o_move (v := (.int .i64 (0 : Int))) rfl (wpList_nil (then_n (wp_block ?_)))
 refine lp_loop2 (fun k_3 F_2 f z => ∃ (es2 : EL ByteArray) (σ1 : Hv) (g : Fr), f = (upd (upd (upd (upd g 3 (.map (some b1))) 7 (.slice a1 edges_p.length cap1)) 8 (.int .i64 ((edges_p.length : Nat) : Int))) 9 (.int .i64 ((k_3 : Nat) : Int))) ∧ St ⟨w, σ, []⟩ z σ1 (smap b1 (asl es2) :: elems 9 1 encTx es2) ∧ Sub σ σ1 ∧ ELF es2 F_2) hP ⟨[], σ, _, (upd_in rfl (upd_in rfl (upd_in rfl (upd_in rfl rfl)))), hS1, (Sub.refl _), ELF.nil⟩ ?_
 clear hP
 rintro k_3 F_2 Y1 hP f w2 ⟨es2, σ1, g, rfl, hS2, hsub1, hF2⟩
 refine seq_reg (o_lss (r := (decide (((k_3 : Nat) : Int) < ((edges_p.length : Nat) : Int)))) rfl rfl rfl (wpList_nil (then_n (wp_seq ?_))))
 refine if_d (((k_3 : Nat) : Int) < ((edges_p.length : Nat) : Int)) rfl (fun ht1 => ?_) (fun ht1 => ?_)
 ·
  replace hP := hP.1 ht1
  refine wp_skip (then_n (wp_seq (wp_block (seq_reg ?_))))
  obtain ⟨x1_, hx1⟩ := getq (l := edges_p) (k := k_3) (by have := ht1; omega)
  replace hP := hP x1_ hx1
  obtain ⟨ad1, cs1, ha1, hl1, hr3, hR1, hlt1⟩ := RSl.at hr1 hx1
  cases hR1
  refine o_iaddr_slice (k := k_3) (a' := (ad1.add (k_3 * 2))) (congrArg (fun z => Value.slice z _ _) ha1) rfl rfl hlt1 Try.underlying24 Try.sizeOf40 rfl (o_loadA (cs := [(.string x1_.1), (.string x1_.2)]) rfl Try.isAgg40 Try.sizeOf40 rfl (hr3.row (View.of hsub1 hS2.view)) (o_alloc (cs := [(.string (⟨#[]⟩ : ByteArray)), (.string (⟨#[]⟩ : ByteArray))]) hS2 Try.zeroValue40 rfl ?_))
  intro b2 w3 hS3
  refine o_store (T := 40) (vs := [(.string x1_.1), (.string x1_.2)]) (cs' := [(.string x1_.1), (.string x1_.2)]) (ms' := (blk b2 40 [(.string x1_.1), (.string x1_.2)] :: smap b1 (asl es2) :: elems 9 1 encTx es2)) (i := 0) hS3 rfl rfl rfl Try.sizeOf40 rfl (ones rfl) rfl (Nat.le_of_ble_eq_true rfl) rfl rfl ?_
  intro w4 hS4
  refine wpList_nil (then_n (dr (fun z => St ⟨w, σ, []⟩ z σ1 [blk b2 40 [(.string x1_.1), (.string x1_.2)]]) (by kernel_rfl) rfl ?_))
  have hS5 := hS4.drew
  refine dt 0 1 (v := (.map (some b1))) (by kernel_rfl) rfl rfl (fun _ _ _ h => h) (hS5.sublist (.cons_cons _ (List.nil_sublist _))) (fun _ _ _ hK => o_move (v := (.map (some b1))) rfl ⟨rfl, hK⟩) (dt 1 3 (v := (.pointer (some ⟨b2, 0, none⟩))) (by kernel_rfl) rfl rfl (fun _ _ _ h => h) (hS5.sublist (.cons_cons _ (List.nil_sublist _))) (fun _ _ _ hK => o_faddr (a' := ⟨b2, 0, none⟩) rfl Try.underlying40 rfl Try.sizeOf9 rfl ⟨rfl, hK⟩) (dt 2 7 (v := (.string x1_.1)) (by kernel_rfl) rfl rfl (fun _ _ _ h => h) (hS5.sublist (.cons_cons _ (List.nil_sublist _))) (fun _ hJ _ hK => o_load (v := (.string x1_.1)) rfl Try.isAgg9 (hJ.cell (i := 0) rfl rfl) ⟨rfl, hK⟩) (dt 3 15 (v := (.map (some b1))) (by kernel_rfl) rfl rfl (fun _ _ _ h => h) (hS5.sublist (.cons_cons _ (List.nil_sublist _))) (fun _ _ _ hK => o_move (v := (.map (some b1))) rfl ⟨rfl, hK⟩) (dt 4 31 (v := (.pointer (some ⟨b2, 0, none⟩))) (by kernel_rfl) rfl rfl (fun _ _ _ h => h) (hS5.sublist (.cons_cons _ (List.nil_sublist _))) (fun _ _ _ hK => o_faddr (a' := ⟨b2, 0, none⟩) rfl Try.underlying40 rfl Try.sizeOf9 rfl ⟨rfl, hK⟩) (dt 5 63 (v := (.string x1_.1)) (by kernel_rfl) rfl rfl (fun _ _ _ h => h) (hS5.sublist (.cons_cons _ (List.nil_sublist _))) (fun _ hJ _ hK => o_load (v := (.string x1_.1)) rfl Try.isAgg9 (hJ.cell (i := 0) rfl rfl) ⟨rfl, hK⟩) (dt 7 191 (v := (.pointer (some ⟨b2, 1, none⟩))) (by kernel_rfl) rfl rfl (fun _ _ _ h => h) (hS5.sublist (.cons_cons _ (List.nil_sublist _))) (fun _ _ _ hK => o_faddr (a' := ⟨b2, 1, none⟩) rfl Try.underlying40 rfl Try.sizeOf9 rfl ⟨rfl, hK⟩) (dt 8 447 (v := (.string x1_.2)) (by kernel_rfl) rfl rfl (fun _ _ _ h => h) (hS5.sublist (.cons_cons _ (List.nil_sublist _))) (fun _ hJ _ hK => o_load (v := (.string x1_.2)) rfl Try.isAgg9 (hJ.cell (i := 0) rfl rfl) ⟨rfl, hK⟩) ?_)))))))
  refine d2 6 9 511 959 (by kernel_rfl) rfl rfl rfl rfl ?_ ?_
  ·
   obtain ⟨v3, hv1⟩ : ∃ v, (asl es2 x1_.1).getD (.slice none 0 0) = v := ⟨_, rfl⟩
   refine o_look (i := 1) (v := v3) hS5 rfl rfl rfl Try.underlying52 Try.underlying9 Try.zeroValue23 hv1 (wpList_nil ?_)
   refine ⟨rfl, (hS5.sublist (.cons_cons _ (List.nil_sublist _))), ?_⟩
   refine d1 9 1023 (by kernel_rfl) rfl (o_bslice (cs := [(.string x1_.2)]) (e := 9) hS5 (fun _ => by kernel_rfl) ?_)
   intro b3 w5 hS6
   refine wpList_nil ?_
   refine ⟨rfl, (hS6.sublist (.cons _ (.cons_cons _ (List.nil_sublist _)))), ?_⟩
   refine d1 10 2047 (by kernel_rfl) rfl ?_
   obtain ⟨es3, hS7, hL1, hl2⟩ := St.borrow (ms := [blk b3 9 [(.string x1_.2)], blk b2 40 [(.string x1_.1), (.string x1_.2)], smap b1 (asl es2)]) hS6 hF2 x1_.1 hv1
   obtain ⟨hsm1, hP⟩ := hP
   refine o_app (Ms := fun v4 => (vec v4 9 1 ((((F_2 x1_.1).getD []) ++ [x1_.2]).length) ((((F_2 x1_.1).getD []) ++ [x1_.2]).flatMap encTx) :: blk b3 9 [(.string x1_.2)] :: blk b2 40 [(.string x1_.1), (.string x1_.2)] :: smap b1 (asl es2) :: elems 9 1 encTx es3)) (k' := (((F_2 x1_.1).getD []) ++ [x1_.2]).length) (xs' := (((F_2 x1_.1).getD []) ++ [x1_.2]).flatMap encTx) Try.underlying23 Try.type9 rfl rfl (bytes := 16) rfl rfl (Nat.succ_pos _) hS7 rfl (q := 0) rfl rfl rfl (blk_row (hS7.get (i := 1) rfl)) (ones rfl) hsm1 (by omega) (by first | rfl | exact List.length_append.symm | simp) (by simp [encTx]) (fun _ => rfl) ?_
   intro v4 w6 ho1 hS8
   have hS9 := hS8.drop 1 (ms' := (vec v4 9 1 ((((F_2 x1_.1).getD []) ++ [x1_.2]).length) ((((F_2 x1_.1).getD []) ++ [x1_.2]).flatMap encTx) :: blk b2 40 [(.string x1_.1), (.string x1_.2)] :: smap b1 (asl es2) :: elems 9 1 encTx es3)) rfl
   refine wpList_nil ?_
   refine ⟨rfl, (hS9.sublist (.cons _ (.cons_cons _ (List.nil_sublist _)))), ?_⟩
   refine d1 11 4095 (by kernel_rfl) rfl (o_put (v := v4) (i := 2) (ms' := (vec v4 9 1 ((((F_2 x1_.1).getD []) ++ [x1_.2]).length) ((((F_2 x1_.1).getD []) ++ [x1_.2]).flatMap encTx) :: blk b2 40 [(.string x1_.1), (.string x1_.2)] :: smap b1 (fun k' => if k' = x1_.1 then some v4 else asl es2 k') :: elems 9 1 encTx es3)) hS9 rfl rfl rfl rfl Try.underlying52 Try.underlying9 rfl ?_)
   intro w7 hS10
   have hS12 := St.giveback (ms := [blk b2 40 [(.string x1_.1), (.string x1_.2)], smap b1 (fun k' => if k' = x1_.1 then some v4 else asl es2 k')]) (ms' := [blk b2 40 [(.string x1_.1), (.string x1_.2)], smap b1 (asl ((x1_.1, v4, ((F_2 x1_.1).getD []) ++ [x1_.2]) :: es3))]) (i := 1) hS10 hL1 rfl rfl
   have hF3 := ELF.put (v := v4) hF2 hL1 hsm1
   refine wpList_nil ?_
   refine ⟨rfl, (hS12.sublist (.cons_cons _ (List.nil_sublist _))), wpJ_weak (J' := fun z => St ⟨w, σ, []⟩ z σ1 (blk b2 40 [(.string x1_.1), (.string x1_.2)] :: smap b1 (asl ((x1_.1, v4, ((F_2 x1_.1).getD []) ++ [x1_.2]) :: es3)) :: elems 9 1 encTx ((x1_.1, v4, ((F_2 x1_.1).getD []) ++ [x1_.2]) :: es3))) (fun w h => h.sublist (.cons_cons _ (List.nil_sublist _))) _ _ _ _ ?_⟩
   refine dz (by kernel_rfl) (blk_n (then_n (one_reg (o_add (r := ((k_3 + 1 : Nat) : Int)) rfl rfl (nw (by omega) (by omega) (by have := hlen1; omega)) (o_move (v := (.int .i64 ((k_3 + 1 : Nat) : Int))) rfl (wpList_nil (then_n ?_)))))))
   exact ⟨k_3 + 1, (put F_2 x1_.1 (((F_2 x1_.1).getD []) ++ [x1_.2])), _, rfl, hP, ((x1_.1, v4, ((F_2 x1_.1).getD []) ++ [x1_.2]) :: es3), σ1, _, (upd_in rfl (upd_in rfl (upd_in rfl (upd_in rfl rfl)))), (hS12.sublist (ms' := (smap b1 (asl ((x1_.1, v4, ((F_2 x1_.1).getD []) ++ [x1_.2]) :: es3)) :: elems 9 1 encTx ((x1_.1, v4, ((F_2 x1_.1).getD []) ++ [x1_.2]) :: es3))) (.cons _ (List.Sublist.refl _))), hsub1, hF3⟩
  ·
   refine o_bslice (cs := [(.string x1_.2)]) (e := 9) hS5 (fun _ => by kernel_rfl) ?_
   intro b3 w5 hS6
   refine wpList_nil ?_
   refine ⟨rfl, (hS6.sublist (.cons _ (.cons_cons _ (List.nil_sublist _)))), ?_⟩
   refine d1 6 1023 (by kernel_rfl) rfl ?_
   obtain ⟨v3, hv1⟩ : ∃ v, (asl es2 x1_.1).getD (.slice none 0 0) = v := ⟨_, rfl⟩
   refine o_look (i := 2) (v := v3) hS6 rfl rfl rfl Try.underlying52 Try.underlying9 Try.zeroValue23 hv1 (wpList_nil ?_)
   refine ⟨rfl, (hS6.sublist (.cons _ (.cons_cons _ (List.nil_sublist _)))), ?_⟩
   refine d1 10 2047 (by kernel_rfl) rfl ?_
   obtain ⟨es3, hS7, hL1, hl2⟩ := St.borrow (ms := [blk b3 9 [(.string x1_.2)], blk b2 40 [(.string x1_.1), (.string x1_.2)], smap b1 (asl es2)]) hS6 hF2 x1_.1 hv1
   obtain ⟨hsm1, hP⟩ := hP
   refine o_app (Ms := fun v4 => (vec v4 9 1 ((((F_2 x1_.1).getD []) ++ [x1_.2]).length) ((((F_2 x1_.1).getD []) ++ [x1_.2]).flatMap encTx) :: blk b3 9 [(.string x1_.2)] :: blk b2 40 [(.string x1_.1), (.string x1_.2)] :: smap b1 (asl es2) :: elems 9 1 encTx es3)) (k' := (((F_2 x1_.1).getD []) ++ [x1_.2]).length) (xs' := (((F_2 x1_.1).getD []) ++ [x1_.2]).flatMap encTx) Try.underlying23 Try.type9 rfl rfl (bytes := 16) rfl rfl (Nat.succ_pos _) hS7 rfl (q := 0) rfl rfl rfl (blk_row (hS7.get (i := 1) rfl)) (ones rfl) hsm1 (by omega) (by first | rfl | exact List.length_append.symm | simp) (by simp [encTx]) (fun _ => rfl) ?_
   intro v4 w6 ho1 hS8
   have hS9 := hS8.drop 1 (ms' := (vec v4 9 1 ((((F_2 x1_.1).getD []) ++ [x1_.2]).length) ((((F_2 x1_.1).getD []) ++ [x1_.2]).flatMap encTx) :: blk b2 40 [(.string x1_.1), (.string x1_.2)] :: smap b1 (asl es2) :: elems 9 1 encTx es3)) rfl
   refine wpList_nil ?_
   refine ⟨rfl, (hS9.sublist (.cons _ (.cons_cons _ (List.nil_sublist _)))), ?_⟩
   refine d1 11 4095 (by kernel_rfl) rfl (o_put (v := v4) (i := 2) (ms' := (vec v4 9 1 ((((F_2 x1_.1).getD []) ++ [x1_.2]).length) ((((F_2 x1_.1).getD []) ++ [x1_.2]).flatMap encTx) :: blk b2 40 [(.string x1_.1), (.string x1_.2)] :: smap b1 (fun k' => if k' = x1_.1 then some v4 else asl es2 k') :: elems 9 1 encTx es3)) hS9 rfl rfl rfl rfl Try.underlying52 Try.underlying9 rfl ?_)
   intro w7 hS10
   have hS12 := St.giveback (ms := [blk b2 40 [(.string x1_.1), (.string x1_.2)], smap b1 (fun k' => if k' = x1_.1 then some v4 else asl es2 k')]) (ms' := [blk b2 40 [(.string x1_.1), (.string x1_.2)], smap b1 (asl ((x1_.1, v4, ((F_2 x1_.1).getD []) ++ [x1_.2]) :: es3))]) (i := 1) hS10 hL1 rfl rfl
   have hF3 := ELF.put (v := v4) hF2 hL1 hsm1
   refine wpList_nil ?_
   refine ⟨rfl, (hS12.sublist (.cons_cons _ (List.nil_sublist _))), wpJ_weak (J' := fun z => St ⟨w, σ, []⟩ z σ1 (blk b2 40 [(.string x1_.1), (.string x1_.2)] :: smap b1 (asl ((x1_.1, v4, ((F_2 x1_.1).getD []) ++ [x1_.2]) :: es3)) :: elems 9 1 encTx ((x1_.1, v4, ((F_2 x1_.1).getD []) ++ [x1_.2]) :: es3))) (fun w h => h.sublist (.cons_cons _ (List.nil_sublist _))) _ _ _ _ ?_⟩
   refine dz (by kernel_rfl) (blk_n (then_n (one_reg (o_add (r := ((k_3 + 1 : Nat) : Int)) rfl rfl (nw (by omega) (by omega) (by have := hlen1; omega)) (o_move (v := (.int .i64 ((k_3 + 1 : Nat) : Int))) rfl (wpList_nil (then_n ?_)))))))
   exact ⟨k_3 + 1, (put F_2 x1_.1 (((F_2 x1_.1).getD []) ++ [x1_.2])), _, rfl, hP, ((x1_.1, v4, ((F_2 x1_.1).getD []) ++ [x1_.2]) :: es3), σ1, _, (upd_in rfl (upd_in rfl (upd_in rfl (upd_in rfl rfl)))), (hS12.sublist (ms' := (smap b1 (asl ((x1_.1, v4, ((F_2 x1_.1).getD []) ++ [x1_.2]) :: es3)) :: elems 9 1 encTx ((x1_.1, v4, ((F_2 x1_.1).getD []) ++ [x1_.2]) :: es3))) (.cons _ (List.Sublist.refl _))), hsub1, hF3⟩
 ·
  replace hP := hP.2 ht1
  refine wp_exit (then_e (then_e (blk_hit (then_n (seq_reg (o_move (v := (.map (some b1))) rfl (o_assign (v := (.map (some b1))) rfl (wpList_nil (then_n (wp_ret (ret1 rfl (show ev _ _ _ = (.map (some b1)) from rfl) ?_)))))))))))
  obtain ⟨σ2, hS13, hsub2, hr4⟩ := St.freezeL (ms := [smap b1 (asl es2)]) (ms' := []) (i := 0) hS2 hF2 encTx_len rfl rfl rfl
  exact ⟨F_2, (.map (some b1)), σ2, rfl, hS13.done, hr4, hP⟩

set_option maxHeartbeats 2000000 in
theorem w_graph_reach {σ : Hv} {w : World} (needs_p : (ByteArray → Option (List ByteArray))) (node_p : ByteArray) (v1 : Value) {K : (ByteArray → Option Bool) → Prop} (hV : View σ w) (hr1 : RMp (RSl 1 (REnc encTx)) σ v1 needs_p) (hP : P_graph_reach needs_p node_p K) :
    Calls Try.prog 33 #[v1, (.string node_p)] w (fun e w1 => ∃ (r1 : (ByteArray → Option Bool)) (b1 : Nat) (σ1 : Hv), e = .returned (.map (some b1)) ∧ Grow [] σ w σ1 w1 ∧ ((emap b1 (fun y : Bool => (Value.bool (y))) r1).ok w1 ∧ ∀ k, (emap b1 (fun y : Bool => (Value.bool (y))) r1).foot = some k → w.heap.size ≤ k ∧ σ1 k = none) ∧ K r1) := by
 unfold P_graph_reach at hP
 obtain ⟨b2, rfl⟩ := hr1.shape
 refine enter Try.func33 rfl rfl rfl ?_
 have hS := St.start hV
 refine seq_reg (o_assign (v := (.map none)) rfl (wpList_nil (then_n (seq_reg (o_emake (fun y : Bool => (Value.bool (y))) hS ?_)))))
 intro b3 w1 hS1
 refine o_assign (v := (.map (some b3))) rfl (wpList_nil (then_n (seq_reg (o_move (v := (.string node_p)) rfl (o_bslice (cs := [(.string node_p)]) (e := 9) hS1 (fun _ => by kernel_rfl) ?_)))))
 intro b4 w2 hS2
 refine o_assign (v := (.slice (some ⟨b4, 0, none⟩) 1 1)) rfl (wpList_nil (then_n (wp_seq (wp_block ?_))))
 have hS3 := hS2.asVec (i := 0) (ms' := [vec (.slice (some ⟨b4, 0, none⟩) 1 1) 9 1 1 (([node_p]).flatMap encTx), emap b3 (fun y : Bool => (Value.bool (y))) (fun _ => none)]) (size := 1) rfl rfl (by unfold maxLen; omega) rfl
 refine lp_loop2 (fun open_3 F_2 f z => ∃ (v4 : Value) (σ1 : Hv) (g : Fr), f = (upd (upd (upd g 0 (.map (some b2))) 5 (.map (some b3))) 6 v4) ∧ St ⟨w, σ, []⟩ z σ1 [vec v4 9 1 open_3.length ((open_3).flatMap encTx), emap b3 (fun y : Bool => (Value.bool (y))) F_2] ∧ Sub σ σ1 ∧ v4.oneCell' = true ∧ Sml open_3.length) hP ⟨(.slice (some ⟨b4, 0, none⟩) 1 1), σ, _, (upd_in rfl (upd_in rfl (upd_in rfl rfl))), hS3, (Sub.refl _), rfl, (by simp [Sml])⟩ ?_
 clear hP
 rintro open_3 F_2 Y1 hP f w3 ⟨v4, σ1, g, rfl, hS4, hsub1, ho3, hl3⟩
 refine wp_seq (seq_reg (o_move (v := v4) rfl (o_len_vec hS4 rfl (i := 0) rfl Try.underlying23 ?_)))
 have hlen1 : open_3.length ≤ 9223372036854775807 := by have := hl3; unfold Sml at this; omega
 replace hP := hP hlen1
 refine o_gtr (r := (decide ((0 : Int) < ((open_3.length : Nat) : Int)))) rfl rfl rfl (wpList_nil (then_n ?_))
 refine if_d ((0 : Int) < ((open_3.length : Nat) : Int)) rfl (fun ht1 => ?_) (fun ht1 => ?_)
 ·
  replace hP := hP.1 ht1
  refine wp_skip (then_n (wp_block (seq_reg (o_move (v := v4) rfl (o_move (v := v4) rfl (o_len_vec hS4 rfl (i := 0) rfl Try.underlying23 ?_))))))
  obtain ⟨hi1, hP⟩ := hP
  refine o_sub (r := (((open_3.length : Nat) : Int) - (1 : Int))) rfl rfl (nwi rfl hi1) ?_
  obtain ⟨j1_, hj1, hP⟩ := hP
  obtain ⟨x1_, hx1, hP⟩ := hP
  obtain ⟨g1, cp1, hv1⟩ := vec_posv (hS4.get (i := 0) rfl) (lt_of_getq hx1)
  refine o_iaddr_slice (k := j1_) (a' := ⟨g1, j1_ * 1, none⟩) hv1 rfl hj1 (lt_of_getq hx1) Try.underlying23 Try.sizeOf9 (by simp [addr_lit]) (o_load (v := (.string x1_)) rfl Try.isAgg9 (vec_cellv encTx_len (j := 0) hv1 (hS4.get (i := 0) rfl) hx1 rfl) (o_assign (v := (.string x1_)) rfl (wpList_nil (then_n (seq_reg (o_move (v := v4) rfl (o_move (v := v4) rfl (o_len_vec hS4 rfl (i := 0) rfl Try.underlying23 ?_))))))))
  obtain ⟨hi2, hP⟩ := hP
  refine o_sub (r := (((open_3.length : Nat) : Int) - (1 : Int))) rfl rfl (nwi rfl hi2) ?_
  obtain ⟨j2_, hj2, hP⟩ := hP
  obtain ⟨hle1, hP⟩ := hP
  obtain ⟨a1, cap1, hv2, hv2c⟩ := vec_anyc (hS4.get (i := 0) rfl)
  subst hv2
  refine o_prefix (r := j2_) rfl Try.underlying23 Try.sizeOf9 (congrArg (Value.int .i64) hj2) (by omega) ?_
  have hS5 := St.cut (ms' := [vec (.slice a1 j2_ cap1) 9 1 ((open_3.take j2_).length) (((open_3.take j2_)).flatMap encTx), emap b3 (fun y : Bool => (Value.bool (y))) F_2]) (i := 0) hS4 rfl encTx_len hle1 rfl
  refine o_assign (v := (.slice a1 j2_ cap1)) rfl (wpList_nil (then_n (seq_reg (o_move (v := (.map (some b2))) rfl (o_move (v := (.string x1_)) rfl ?_)))))
  obtain ⟨v5, hl4, hz1⟩ := RMp.at (z := .slice none 0 0) (z0 := []) RSl.nil hr1 x1_
  obtain ⟨a2, cap2, rfl⟩ := hz1.shape
  refine o_lookR (v := (.slice a2 ((needs_p x1_).getD []).length cap2)) hl4 (View.of hsub1 hS5.view) rfl rfl Try.underlying52 Try.underlying9 Try.zeroValue23 (o_len_slice rfl Try.underlying23 ?_)
  have hlen4 := RSl.len63 hz1
  replace hP := hP hlen4
  refine o_move (v := (.int .i64 (0 : Int))) rfl (wpList_nil (then_n (wp_block ?_)))
  refine lp_loop3 (fun open_6 k_3 F_4 f z => ∃ (v8 : Value) (σ2 : Hv) (g : Fr), f = (upd (upd (upd (upd (upd (upd g 0 (.map (some b2))) 5 (.map (some b3))) 6 v8) 29 (.slice a2 ((needs_p x1_).getD []).length cap2)) 30 (.int .i64 ((((needs_p x1_).getD []).length : Nat) : Int))) 31 (.int .i64 ((k_3 : Nat) : Int))) ∧ St ⟨w, σ, []⟩ z σ2 [vec v8 9 1 open_6.length ((open_6).flatMap encTx), emap b3 (fun y : Bool => (Value.bool (y))) F_4] ∧ Sub σ1 σ2 ∧ v8.oneCell' = true ∧ Sml open_6.length) hP ⟨(.slice a1 j2_ cap1), σ1, _, (upd_in rfl (upd_in rfl (upd_in rfl (upd_in rfl (upd_in rfl (upd_in rfl rfl)))))), hS5, (Sub.refl _), rfl, (sml_take hl3)⟩ ?_
  clear hP
  rintro open_6 k_3 F_4 Y2 hP f w4 ⟨v8, σ2, g, rfl, hS6, hsub2, ho6, hl7⟩
  refine seq_reg (o_lss (r := (decide (((k_3 : Nat) : Int) < ((((needs_p x1_).getD []).length : Nat) : Int)))) rfl rfl rfl (wpList_nil (then_n (wp_seq ?_))))
  refine if_d (((k_3 : Nat) : Int) < ((((needs_p x1_).getD []).length : Nat) : Int)) rfl (fun ht2 => ?_) (fun ht2 => ?_)
  ·
   replace hP := hP.1 ht2
   refine wp_skip (then_n (wp_seq (wp_block (seq_reg ?_))))
   obtain ⟨x2_, hx2⟩ := getq (l := ((needs_p x1_).getD [])) (k := k_3) (by have := ht2; omega)
   replace hP := hP x2_ hx2
   obtain ⟨ad1, cs1, ha1, hl8, hr2, hR1, hlt1⟩ := RSl.at hz1 hx2
   cases hR1
   refine o_iaddr_slice (k := k_3) (a' := (ad1.add (k_3 * 1))) (congrArg (fun z => Value.slice z _ _) ha1) rfl rfl hlt1 Try.underlying23 Try.sizeOf9 rfl (o_load (v := (.string x2_)) rfl Try.isAgg9 (hr2.cell (View.of (Sub.trans hsub1 hsub2) hS6.view) 0 rfl rfl) (o_assign (v := (.string x2_)) rfl (wpList_nil (then_n (seq_reg (o_move (v := (.map (some b3))) rfl (o_move (v := (.string x2_)) rfl (o_elook (v := (.bool (((F_4 x2_).getD false)))) (i := 1) hS6 rfl rfl rfl Try.underlying53 Try.underlying9 Try.zeroValue4 (getD_enc (fun y : Bool => (Value.bool (y))) _ rfl) (o_not (r := (!((F_4 x2_).getD false))) rfl rfl (wpList_nil (then_n ?_)))))))))))
   refine if_nb rfl (fun ht3 => ?_) (fun ht3 => ?_)
   ·
    replace hP := hP.2 (by first | (rw [ht3]; exact Bool.false_ne_true) | simp [ht3])
    refine seq_reg (o_move (v := (.map (some b3))) rfl (o_move (v := (.string x2_)) rfl (o_eput (y0 := true) (i := 1) (ms' := [vec v8 9 1 open_6.length ((open_6).flatMap encTx), emap b3 (fun y : Bool => (Value.bool (y))) (put F_4 x2_ true)]) hS6 rfl rfl rfl rfl Try.underlying53 Try.underlying9 rfl ?_)))
    intro w5 hS7
    refine wpList_nil (then_n (one_reg (o_move (v := v8) rfl (o_move (v := (.string x2_)) rfl (o_bslice (cs := [(.string x2_)]) (e := 9) hS7 (fun _ => by kernel_rfl) ?_)))))
    intro b5 w6 hS8
    obtain ⟨hsm1, hP⟩ := hP
    refine o_app (Ms := fun v9 => [blk b5 9 [(.string x2_)], vec v9 9 1 ((open_6 ++ [x2_]).length) ((open_6 ++ [x2_]).flatMap encTx), emap b3 (fun y : Bool => (Value.bool (y))) (put F_4 x2_ true)]) (k' := (open_6 ++ [x2_]).length) (xs' := (open_6 ++ [x2_]).flatMap encTx) Try.underlying23 Try.type9 rfl rfl (bytes := 16) rfl rfl (Nat.succ_pos _) hS8 rfl (q := 1) rfl rfl rfl (blk_row (hS8.get (i := 0) rfl)) (ones rfl) hsm1 (by omega) (by first | rfl | exact List.length_append.symm | simp) (by simp [encTx]) (fun _ => rfl) ?_
    intro v9 w7 ho7 hS9
    have hS10 := hS9.drop 0 (ms' := [vec v9 9 1 ((open_6 ++ [x2_]).length) ((open_6 ++ [x2_]).flatMap encTx), emap b3 (fun y : Bool => (Value.bool (y))) (put F_4 x2_ true)]) rfl
    refine o_assign (v := v9) rfl (wpList_nil (blk_n (then_n (one_reg (o_add (r := ((k_3 + 1 : Nat) : Int)) rfl rfl (nw (by omega) (by omega) (by have := hlen4; omega)) (o_move (v := (.int .i64 ((k_3 + 1 : Nat) : Int))) rfl (wpList_nil (then_n ?_))))))))
    exact ⟨open_6 ++ [x2_], k_3 + 1, put F_4 x2_ true, _, rfl, hP, v9, σ2, _, (upd_in rfl (upd_in rfl (upd_in rfl (upd_in rfl (upd_in rfl (upd_in rfl rfl)))))), hS10, hsub2, ho7, hsm1⟩
   ·
    replace hP := hP.1 ht3
    refine wp_skip (blk_n (then_n (one_reg (o_add (r := ((k_3 + 1 : Nat) : Int)) rfl rfl (nw (by omega) (by omega) (by have := hlen4; omega)) (o_move (v := (.int .i64 ((k_3 + 1 : Nat) : Int))) rfl (wpList_nil (then_n ?_)))))))
    exact ⟨open_6, k_3 + 1, F_4, _, rfl, hP, v8, σ2, _, (upd_in rfl (upd_in rfl (upd_in rfl (upd_in rfl (upd_in rfl (upd_in rfl rfl)))))), hS6, hsub2, ho6, hl7⟩
  ·
   replace hP := hP.2 ht2
   refine wp_exit (then_e (then_e (blk_hit (blk_n (then_n ?_)))))
   exact ⟨open_6, F_4, _, rfl, hP, v8, σ2, _, (upd_in rfl (upd_in rfl (upd_in rfl rfl))), hS6, (Sub.trans hsub1 hsub2), ho6, hl7⟩
 ·
  replace hP := hP.2 ht1
  refine wp_exit (then_e (then_e (blk_hit (then_n (seq_reg (o_move (v := (.map (some b3))) rfl (o_assign (v := (.map (some b3))) rfl (wpList_nil (then_n (wp_ret (ret1 rfl (show ev _ _ _ = (.map (some b3)) from rfl) ?_)))))))))))
  exact ⟨F_2, b3, σ1, rfl, hS4.done, hS4.own1 (i := 1) rfl, hP⟩

set_option maxHeartbeats 2000000 in
theorem w_graph_Needs {σ : Hv} {w : World} (edges_p : (List (ByteArray × ByteArray))) (node_p : ByteArray) (v1 : Value) {K : (List ByteArray) → Prop} (hV : View σ w) (hr1 : RSl 2 (REnc encEd) σ v1 edges_p) (hP : P_graph_Needs edges_p node_p K) :
    Calls Try.prog 14 #[v1, (.string node_p)] w (fun e w1 => ∃ (r1 : (List ByteArray)) (v2 : Value), e = .returned v2 ∧ Grow [] σ w σ w1 ∧ Sml r1.length ∧ ((vec v2 9 1 r1.length ((r1).flatMap encTx)).ok w1 ∧ ∀ k, (vec v2 9 1 r1.length ((r1).flatMap encTx)).foot = some k → w.heap.size ≤ k ∧ σ k = none) ∧ K r1) := by
 unfold P_graph_Needs at hP
 obtain ⟨a1, cap1, rfl⟩ := hr1.shape
 refine enter Try.func14 rfl rfl rfl ?_
 have hS := St.start hV
 refine seq_reg (o_assign (v := (.slice none 0 0)) rfl (wpList_nil (then_n (seq_reg (o_assign (v := (.slice none 0 0)) rfl (wpList_nil (then_n (wp_seq (seq_reg (o_move (v := (.slice a1 edges_p.length cap1)) rfl ?_))))))))))
 obtain ⟨Y1, hK1, hc1⟩ := hP
 refine o_call (args := [(.slice a1 edges_p.length cap1)]) rfl Try.call34 (Calls.mono (w_graph_table edges_p (.slice a1 edges_p.length cap1) hS.view hr1 hc1) ?_)
 rintro _ w1 ⟨r1_, v3, σ1, rfl, hg1, hr3, hY1⟩
 refine ⟨_, rfl, ?_⟩
 have hS1 := hS.grow hg1
 replace hP := hK1 r1_ hY1
 obtain ⟨b1, rfl⟩ := hr3.shape
 refine o_move (v := (.string node_p)) rfl ?_
 obtain ⟨Y2, hK2, hc2⟩ := hP
 refine o_call (args := [(.map (some b1)), (.string node_p)]) rfl Try.call33 (Calls.mono (w_graph_reach r1_ node_p (.map (some b1)) hS1.view hr3 hc2) ?_)
 rintro _ w2 ⟨r2_, b2, σ2, rfl, hg2, ho1, hY2⟩
 refine ⟨_, rfl, ?_⟩
 have hS2 := hS1.growAdd hg2 (o := emap b2 (fun y : Bool => (Value.bool (y))) r2_) ho1
 replace hP := hK2 r2_ hY2
 obtain ⟨σ3, hS3, hsub1, hr4⟩ := hS2.freezeMp (ms' := []) (i := 0) rfl (notin0 _) rfl
 obtain ⟨es1, ck1, hM1⟩ := RMp.open hr4
 obtain ⟨ks1, hk1, hk2⟩ := hM1.keys
 replace hP := hP ks1 hk1 hk2
 refine o_range hS3 hM1.1 hS3.view rfl Try.underlying53 ?_
 intro r3 w3 hS4
 refine wpList_nil (then_n (wp_block ?_))
 have hS5 := hS4.addNil 9 1
 refine lp_loop2 (fun out_3 done_2 f z => ∃ (v6 : Value) (cur2 : Option (ByteArray × Value)) (σ4 : Hv) (g : Fr), f = (upd (upd g 5 v6) 11 (.pointer (some ⟨r3, 0, none⟩))) ∧ St ⟨w, σ, []⟩ z σ4 [vec v6 9 1 out_3.length ((out_3).flatMap encTx), itr r3 b2 es1 ck1 done_2 cur2] ∧ Sub σ3 σ4 ∧ v6.oneCell' = true ∧ Sml out_3.length) hP ⟨(.slice none 0 0), none, σ3, _, (upd_in rfl (upd_in rfl rfl)), hS5, (Sub.refl _), rfl, (by simp [Sml])⟩ ?_
 clear hP
 rintro out_3 done_2 Y3 hP f w4 ⟨v6, cur2, σ4, g, rfl, hS6, hsub2, ho4, hl3⟩
 refine seq_reg ?_
 refine o_next (i := 1) hS6 (RMa.mono REv.mono hsub2 hM1) hS6.view rfl rfl ?_ ?_
 ·
  intro hx1
  replace hP := hP.1 hx1
  refine o_extract (v := (.bool false)) rfl rfl (wpList_nil (then_n (wp_seq (if_f rfl (wp_exit (then_e (then_e (blk_hit (then_n (seq_reg (o_move (v := v6) rfl ?_)))))))))))
  refine o_call (args := [v6]) rfl Try.call35 (Calls.mono (sort_vec Try.slices_Sort_string Try.slices_Sort_string_none hS6.view (hS6.get (i := 0) rfl) rfl (fun b hb => hS6.off _ (List.mem_of_getElem? (i := 0) rfl) b hb) (by have := hl3; unfold Sml at this; omega)) ?_)
  rintro _ w5 ⟨rfl, hg3, ho5⟩
  refine ⟨_, rfl, ?_⟩
  have hS7 := hS6.growV (i := 0) (o' := vec v6 9 1 out_3.length ((srt out_3).flatMap encTx)) rfl hg3 rfl ho5 (ms' := [vec v6 9 1 out_3.length ((srt out_3).flatMap encTx), itr r3 b2 es1 ck1 done_2 cur2]) rfl
  have hS8 := hS7.re (ms' := [vec v6 9 1 ((srt out_3).length) ((srt out_3).flatMap encTx), itr r3 b2 es1 ck1 done_2 cur2]) (by simp only [srt_length])
  refine wpList_nil (then_n (seq_reg (o_move (v := v6) rfl (o_assign (v := v6) rfl (wpList_nil (then_n (wp_ret (ret1 rfl (show ev _ _ _ = v6 from rfl) ?_))))))))
  exact ⟨srt out_3, v6, rfl, hS8.done.forget, (show Sml (srt out_3).length by rw [srt_length]; exact hl3), hS8.own0 (i := 0) rfl, hP⟩
 ·
  intro k1_ v7 y1_ w6 hF1 hn1 hz1 hS9
  replace hP := hP.2 k1_ y1_ hF1 hn1
  obtain rfl : v7 = (.bool (y1_)) := hz1
  have hS10 := hS9.re (ms' := [vec v6 9 1 out_3.length ((out_3).flatMap encTx), itr r3 b2 es1 ck1 (k1_ :: done_2) (some (k1_, (.bool (y1_))))]) rfl
  refine o_extract (v := (.bool true)) rfl rfl (wpList_nil (then_n (wp_seq (if_t rfl (wp_skip (then_n (wp_block (seq_reg (o_entry (i := 1) hS10 (RMa.mono REv.mono hsub2 hM1) hS10.view rfl rfl (o_extract (v := (.string k1_)) rfl rfl (o_assign (v := (.string k1_)) rfl (wpList_nil (then_n (one_reg (o_move (v := v6) rfl (o_move (v := (.string k1_)) rfl (o_bslice (cs := [(.string k1_)]) (e := 9) hS10 (fun _ => by kernel_rfl) ?_)))))))))))))))))
  intro b3 w7 hS11
  obtain ⟨hsm1, hP⟩ := hP
  refine o_app (Ms := fun v8 => [blk b3 9 [(.string k1_)], vec v8 9 1 ((out_3 ++ [k1_]).length) ((out_3 ++ [k1_]).flatMap encTx), itr r3 b2 es1 ck1 (k1_ :: done_2) (some (k1_, (.bool (y1_))))]) (k' := (out_3 ++ [k1_]).length) (xs' := (out_3 ++ [k1_]).flatMap encTx) Try.underlying23 Try.type9 rfl rfl (bytes := 16) rfl rfl (Nat.succ_pos _) hS11 rfl (q := 1) rfl rfl rfl (blk_row (hS11.get (i := 0) rfl)) (ones rfl) hsm1 (by omega) (by first | rfl | exact List.length_append.symm | simp) (by simp [encTx]) (fun _ => rfl) ?_
  intro v8 w8 ho6 hS12
  have hS13 := hS12.drop 0 (ms' := [vec v8 9 1 ((out_3 ++ [k1_]).length) ((out_3 ++ [k1_]).flatMap encTx), itr r3 b2 es1 ck1 (k1_ :: done_2) (some (k1_, (.bool (y1_))))]) rfl
  refine o_assign (v := v8) rfl (wpList_nil (blk_n (then_n ?_)))
  exact ⟨out_3 ++ [k1_], (k1_ :: done_2), _, rfl, hP, v8, some (k1_, (.bool (y1_))), σ4, _, (upd_in rfl (upd_in rfl rfl)), hS13, hsub2, ho6, hsm1⟩

set_option maxHeartbeats 2000000 in
theorem w_graph_Cyclic {σ : Hv} {w : World} (nodes_p : (List ByteArray)) (edges_p : (List (ByteArray × ByteArray))) (v1 : Value) (v2 : Value) {K : (List ByteArray) → Prop} (hV : View σ w) (hr1 : RSl 1 (REnc encTx) σ v1 nodes_p) (hr2 : RSl 2 (REnc encEd) σ v2 edges_p) (hP : P_graph_Cyclic nodes_p edges_p K) :
    Calls Try.prog 15 #[v1, v2] w (fun e w1 => ∃ (r1 : (List ByteArray)) (v3 : Value), e = .returned v3 ∧ Grow [] σ w σ w1 ∧ Sml r1.length ∧ ((vec v3 9 1 r1.length ((r1).flatMap encTx)).ok w1 ∧ ∀ k, (vec v3 9 1 r1.length ((r1).flatMap encTx)).foot = some k → w.heap.size ≤ k ∧ σ k = none) ∧ K r1) := by
 unfold P_graph_Cyclic at hP
 obtain ⟨a1, cap1, rfl⟩ := hr1.shape
 obtain ⟨a2, cap2, rfl⟩ := hr2.shape
 refine enter Try.func15 rfl rfl rfl ?_
 have hS := St.start hV
 refine seq_reg (o_assign (v := (.slice none 0 0)) rfl (wpList_nil (then_n (seq_reg (o_assign (v := (.slice none 0 0)) rfl (wpList_nil (then_n (seq_reg (o_move (v := (.slice a2 edges_p.length cap2)) rfl ?_)))))))))
 obtain ⟨Y1, hK1, hc1⟩ := hP
 refine o_call (args := [(.slice a2 edges_p.length cap2)]) rfl Try.call34 (Calls.mono (w_graph_table edges_p (.slice a2 edges_p.length cap2) hS.view hr2 hc1) ?_)
 rintro _ w1 ⟨r1_, v4, σ1, rfl, hg1, hr4, hY1⟩
 refine ⟨_, rfl, ?_⟩
 have hS1 := hS.grow hg1
 replace hP := hK1 r1_ hY1
 obtain ⟨b1, rfl⟩ := hr4.shape
 refine o_assign (v := (.map (some b1))) rfl (wpList_nil (then_n (wp_seq (seq_reg (o_move (v := (.slice a1 nodes_p.length cap1)) rfl (o_call (args := [(.slice a1 nodes_p.length cap1)]) rfl Try.call23 ?_))))))
 refine enter Try.func23 rfl rfl rfl ?_
 refine seq_reg (o_box (cs := [(.slice a1 nodes_p.length cap1)]) hS1 rfl rfl ?_)
 intro b2 w2 hS2
 refine o_assign (v := .nilFunc) rfl (wpList_nil (then_n (seq_reg (o_makefunc (la := []) (lb := [(.pointer (some ⟨b2, 0, none⟩))]) rfl rfl (o_assign (v := (.func (.func 38) #[] #[(.pointer (some ⟨b2, 0, none⟩))])) rfl (wpList_nil (then_n (wp_ret (ret1 rfl (show ev _ _ _ = (.func (.func 38) #[] #[(.pointer (some ⟨b2, 0, none⟩))]) from rfl) ?_)))))))))
 refine ⟨_, rfl, ?_⟩
 refine o_call (args := [(.func (.func 38) #[] #[(.pointer (some ⟨b2, 0, none⟩))])]) rfl Try.call22 ?_
 refine enter Try.func22 rfl rfl rfl ?_
 refine seq_reg (o_assign (v := (.slice none 0 0)) rfl (wpList_nil (then_n (seq_reg (o_move (v := (.func (.func 38) #[] #[(.pointer (some ⟨b2, 0, none⟩))])) rfl (o_call (args := [(.func (.func 38) #[] #[(.pointer (some ⟨b2, 0, none⟩))])]) rfl Try.call37 ?_))))))
 refine enter Try.func37 rfl rfl rfl ?_
 refine seq_reg (o_assign (v := (.slice none 0 0)) rfl (wpList_nil (then_n (seq_reg (o_move (v := (.func (.func 38) #[] #[(.pointer (some ⟨b2, 0, none⟩))])) rfl ?_)))))
 obtain ⟨σ2, hS3, hsub1, hfr1⟩ := hS2.freeze' (i := 0) rfl (notin0 _) rfl
 have hB1 : σ2 b2 = some (.cells #[(.slice a1 nodes_p.length cap1)] 23 (0, 0)) := (hfr1 _ rfl).trans (hS2.get (i := 0) rfl)
 obtain ⟨hsm1, hP⟩ := hP
 refine o_call (args := [(.slice none 0 0), (.func (.func 38) #[] #[(.pointer (some ⟨b2, 0, none⟩))])]) rfl Try.call42 (Calls.mono (c_seq b2 (.slice a1 nodes_p.length cap1) nodes_p hS3.view hB1 (RSl.menc (Sub.trans hg1.sub hsub1) hr1) hsm1) ?_)
 rintro _ w3 ⟨v5, rfl, hg2, ho1⟩
 refine ⟨_, rfl, ?_⟩
 have hS4 := hS3.growAdd hg2 (o := vec v5 9 1 nodes_p.length ((nodes_p).flatMap encTx)) ho1
 refine o_assign (v := v5) rfl (wpList_nil (then_n (wp_ret (ret1 rfl (show ev _ _ _ = v5 from rfl) ?_))))
 refine ⟨_, rfl, ?_⟩
 refine o_assign (v := v5) rfl (wpList_nil (then_n (seq_reg (o_move (v := v5) rfl ?_))))
 refine o_call (args := [v5]) rfl Try.call35 (Calls.mono (sort_vec Try.slices_Sort_string Try.slices_Sort_string_none hS4.view (hS4.get (i := 0) rfl) rfl (fun b hb => hS4.off _ (List.mem_of_getElem? (i := 0) rfl) b hb) (by have := hsm1; unfold Sml at this; omega)) ?_)
 rintro _ w4 ⟨rfl, hg3, ho2⟩
 refine ⟨_, rfl, ?_⟩
 have hS5 := hS4.growV (i := 0) (o' := vec v5 9 1 nodes_p.length ((srt nodes_p).flatMap encTx)) rfl hg3 rfl ho2 (ms' := [vec v5 9 1 nodes_p.length ((srt nodes_p).flatMap encTx)]) rfl
 have hS6 := hS5.re (ms' := [vec v5 9 1 ((srt nodes_p).length) ((srt nodes_p).flatMap encTx)]) (by simp only [srt_length])
 refine wpList_nil (then_n (seq_reg (o_move (v := v5) rfl (o_assign (v := v5) rfl (wpList_nil (then_n (wp_ret (ret1 rfl (show ev _ _ _ = v5 from rfl) ?_))))))))
 refine ⟨_, rfl, ?_⟩
 obtain ⟨hsm2, hP⟩ := hP
 refine o_call (args := [v5]) rfl Try.call24 (Calls.mono (compact_vec Try.slices_Compact_string Try.slices_Compact_string_empty hS6.view (hS6.get (i := 0) rfl) rfl (fun b hb => hS6.off _ (List.mem_of_getElem? (i := 0) rfl) b hb) (by have := (show Sml (srt nodes_p).length by rw [srt_length]; exact hsm1); unfold Sml at this; omega)) ?_)
 rintro _ w5 ⟨v6, rfl, hf1, hg4, ho3⟩
 refine ⟨_, rfl, ?_⟩
 have ho4 := vec_one ho3
 have hS7 := hS6.growV (i := 0) (o' := vec v6 9 1 ((cpt (srt nodes_p)).length) ((cpt (srt nodes_p)).flatMap encTx)) rfl hg4 hf1 ho3 (ms' := [vec v6 9 1 ((cpt (srt nodes_p)).length) ((cpt (srt nodes_p)).flatMap encTx)]) rfl
 refine o_len_vec hS7 rfl (i := 0) rfl Try.underlying23 ?_
 have hlen1 : (cpt (srt nodes_p)).length ≤ 9223372036854775807 := by have := hsm2; unfold Sml at this; omega
 replace hP := hP hlen1
 refine o_move (v := (.int .i64 (0 : Int))) rfl (wpList_nil (then_n (wp_block ?_)))
 have hS8 := hS7.addNil 9 1
 refine lp_loop2 (fun out_2 k_2 f z => ∃ (v8 : Value) (σ3 : Hv) (g : Fr), f = (upd (upd (upd (upd (upd g 5 v8) 6 (.map (some b1))) 14 v6) 15 (.int .i64 (((cpt (srt nodes_p)).length : Nat) : Int))) 16 (.int .i64 ((k_2 : Nat) : Int))) ∧ St ⟨w, σ, []⟩ z σ3 [vec v8 9 1 out_2.length ((out_2).flatMap encTx), vec v6 9 1 ((cpt (srt nodes_p)).length) ((cpt (srt nodes_p)).flatMap encTx)] ∧ Sub σ2 σ3 ∧ v8.oneCell' = true ∧ Sml out_2.length) hP ⟨(.slice none 0 0), σ2, _, (upd_in rfl (upd_in rfl (upd_in rfl (upd_in rfl (upd_in rfl rfl))))), hS8, (Sub.refl _), rfl, (by simp [Sml])⟩ ?_
 clear hP
 rintro out_2 k_2 Y2 hP f w6 ⟨v8, σ3, g, rfl, hS9, hsub2, ho6, hl2⟩
 refine seq_reg (o_lss (r := (decide (((k_2 : Nat) : Int) < (((cpt (srt nodes_p)).length : Nat) : Int)))) rfl rfl rfl (wpList_nil (then_n (wp_seq ?_))))
 refine if_d (((k_2 : Nat) : Int) < (((cpt (srt nodes_p)).length : Nat) : Int)) rfl (fun ht1 => ?_) (fun ht1 => ?_)
 ·
  replace hP := hP.1 ht1
  refine wp_skip (then_n (wp_seq (wp_block (seq_reg ?_))))
  obtain ⟨x1_, hx1⟩ := getq (l := cpt (srt nodes_p)) (k := k_2) (by have := ht1; omega)
  replace hP := hP x1_ hx1
  obtain ⟨g1, cp1, hv1⟩ := vec_posv (hS9.get (i := 1) rfl) (lt_of_getq hx1)
  refine o_iaddr_slice (k := k_2) (a' := ⟨g1, k_2 * 1, none⟩) hv1 rfl rfl (lt_of_getq hx1) Try.underlying23 Try.sizeOf9 (by simp [addr_lit]) (o_load (v := (.string x1_)) rfl Try.isAgg9 (vec_cellv encTx_len (j := 0) hv1 (hS9.get (i := 1) rfl) hx1 rfl) (o_assign (v := (.string x1_)) rfl (wpList_nil (then_n (seq_reg (o_move (v := (.map (some b1))) rfl (o_move (v := (.string x1_)) rfl ?_)))))))
  obtain ⟨Y3, hK2, hc2⟩ := hP
  refine o_call (args := [(.map (some b1)), (.string x1_)]) rfl Try.call33 (Calls.mono (w_graph_reach r1_ x1_ (.map (some b1)) hS9.view (RMp.mono (RSl.mz (Sub.trans hsub1 hsub2)) (Sub.trans hsub1 hsub2) hr4) hc2) ?_)
  rintro _ w7 ⟨r2_, b3, σ4, rfl, hg5, ho7, hY2⟩
  refine ⟨_, rfl, ?_⟩
  have hS10 := hS9.growAdd hg5 (o := emap b3 (fun y : Bool => (Value.bool (y))) r2_) ho7
  replace hP := hK2 r2_ hY2
  refine o_move (v := (.string x1_)) rfl (o_elook (v := (.bool (((r2_ x1_).getD false)))) (i := 0) hS10 rfl rfl rfl Try.underlying53 Try.underlying9 Try.zeroValue4 (getD_enc (fun y : Bool => (Value.bool (y))) _ rfl) (wpList_nil (then_n ?_)))
  refine if_b rfl (fun ht2 => ?_) (fun ht2 => ?_)
  ·
   replace hP := hP.1 ht2
   refine one_reg (o_move (v := v8) rfl (o_move (v := (.string x1_)) rfl (o_bslice (cs := [(.string x1_)]) (e := 9) hS10 (fun _ => by kernel_rfl) ?_)))
   intro b4 w8 hS11
   obtain ⟨hsm3, hP⟩ := hP
   refine o_app (Ms := fun v9 => [blk b4 9 [(.string x1_)], emap b3 (fun y : Bool => (Value.bool (y))) r2_, vec v9 9 1 ((out_2 ++ [x1_]).length) ((out_2 ++ [x1_]).flatMap encTx), vec v6 9 1 ((cpt (srt nodes_p)).length) ((cpt (srt nodes_p)).flatMap encTx)]) (k' := (out_2 ++ [x1_]).length) (xs' := (out_2 ++ [x1_]).flatMap encTx) Try.underlying23 Try.type9 rfl rfl (bytes := 16) rfl rfl (Nat.succ_pos _) hS11 rfl (q := 2) rfl rfl rfl (blk_row (hS11.get (i := 0) rfl)) (ones rfl) hsm3 (by omega) (by first | rfl | exact List.length_append.symm | simp) (by simp [encTx]) (fun _ => rfl) ?_
   intro v9 w9 ho8 hS12
   have hS13 := hS12.drop 0 (ms' := [emap b3 (fun y : Bool => (Value.bool (y))) r2_, vec v9 9 1 ((out_2 ++ [x1_]).length) ((out_2 ++ [x1_]).flatMap encTx), vec v6 9 1 ((cpt (srt nodes_p)).length) ((cpt (srt nodes_p)).flatMap encTx)]) rfl
   refine o_assign (v := v9) rfl (wpList_nil (blk_n (then_n (one_reg (o_add (r := ((k_2 + 1 : Nat) : Int)) rfl rfl (nw (by omega) (by omega) (by have := hlen1; omega)) (o_move (v := (.int .i64 ((k_2 + 1 : Nat) : Int))) rfl (wpList_nil (then_n ?_))))))))
   have hS14 := hS13.front 2 rfl (ms' := [vec v6 9 1 ((cpt (srt nodes_p)).length) ((cpt (srt nodes_p)).flatMap encTx), emap b3 (fun y : Bool => (Value.bool (y))) r2_, vec v9 9 1 ((out_2 ++ [x1_]).length) ((out_2 ++ [x1_]).flatMap encTx)]) rfl
   have hS15 := hS14.front 2 rfl (ms' := [vec v9 9 1 ((out_2 ++ [x1_]).length) ((out_2 ++ [x1_]).flatMap encTx), vec v6 9 1 ((cpt (srt nodes_p)).length) ((cpt (srt nodes_p)).flatMap encTx), emap b3 (fun y : Bool => (Value.bool (y))) r2_]) rfl
   exact ⟨out_2 ++ [x1_], k_2 + 1, _, rfl, hP, v9, σ4, _, (upd_in rfl (upd_in rfl (upd_in rfl (upd_in rfl (upd_in rfl rfl))))), (hS15.keep 2 (ms' := [vec v9 9 1 ((out_2 ++ [x1_]).length) ((out_2 ++ [x1_]).flatMap encTx), vec v6 9 1 ((cpt (srt nodes_p)).length) ((cpt (srt nodes_p)).flatMap encTx)]) rfl), (Sub.trans hsub2 hg5.sub), ho8, hsm3⟩
  ·
   replace hP := hP.2 (by first | (rw [ht2]; exact Bool.false_ne_true) | simp [ht2])
   refine wp_skip (blk_n (then_n (one_reg (o_add (r := ((k_2 + 1 : Nat) : Int)) rfl rfl (nw (by omega) (by omega) (by have := hlen1; omega)) (o_move (v := (.int .i64 ((k_2 + 1 : Nat) : Int))) rfl (wpList_nil (then_n ?_)))))))
   have hS16 := hS10.front 2 rfl (ms' := [vec v6 9 1 ((cpt (srt nodes_p)).length) ((cpt (srt nodes_p)).flatMap encTx), emap b3 (fun y : Bool => (Value.bool (y))) r2_, vec v8 9 1 out_2.length ((out_2).flatMap encTx)]) rfl
   have hS17 := hS16.front 2 rfl (ms' := [vec v8 9 1 out_2.length ((out_2).flatMap encTx), vec v6 9 1 ((cpt (srt nodes_p)).length) ((cpt (srt nodes_p)).flatMap encTx), emap b3 (fun y : Bool => (Value.bool (y))) r2_]) rfl
   exact ⟨out_2, k_2 + 1, _, rfl, hP, v8, σ4, _, (upd_in rfl (upd_in rfl (upd_in rfl (upd_in rfl (upd_in rfl rfl))))), (hS17.keep 2 (ms' := [vec v8 9 1 out_2.length ((out_2).flatMap encTx), vec v6 9 1 ((cpt (srt nodes_p)).length) ((cpt (srt nodes_p)).flatMap encTx)]) rfl), (Sub.trans hsub2 hg5.sub), ho6, hl2⟩
 ·
  replace hP := hP.2 ht1
  refine wp_exit (then_e (then_e (blk_hit (then_n (seq_reg (o_move (v := v8) rfl (o_assign (v := v8) rfl (wpList_nil (then_n (wp_ret (ret1 rfl (show ev _ _ _ = v8 from rfl) ?_)))))))))))
  exact ⟨out_2, v8, rfl, hS9.done.forget, hl2, hS9.own0 (i := 0) rfl, hP⟩

set_option maxHeartbeats 2000000 in
theorem w_graph_Order {σ : Hv} {w : World} (nodes_p : (List ByteArray)) (edges_p : (List (ByteArray × ByteArray))) (v1 : Value) (v2 : Value) {K : (List ByteArray) → Int → Prop} (hV : View σ w) (hr1 : RSl 1 (REnc encTx) σ v1 nodes_p) (hr2 : RSl 2 (REnc encEd) σ v2 edges_p) (hP : P_graph_Order nodes_p edges_p K) :
    Calls Try.prog 10 #[v1, v2] w (fun e w1 => ∃ (r1 : (List ByteArray)) (r2 : Int) (v3 : Value), e = .returned (.tuple #[v3, (.int .i64 r2)]) ∧ Grow [] σ w σ w1 ∧ Sml r1.length ∧ ((vec v3 9 1 r1.length ((r1).flatMap encTx)).ok w1 ∧ ∀ k, (vec v3 9 1 r1.length ((r1).flatMap encTx)).foot = some k → w.heap.size ≤ k ∧ σ k = none) ∧ K r1 r2) := by
 unfold P_graph_Order at hP
 obtain ⟨a1, cap1, rfl⟩ := hr1.shape
 obtain ⟨a2, cap2, rfl⟩ := hr2.shape
 refine enter Try.func10 rfl rfl rfl ?_
 have hS := St.start hV
 refine seq_reg (o_assign (v := (.slice none 0 0)) rfl (o_assign (v := (.int .i64 (0 : Int))) rfl (wpList_nil (then_n (seq_reg (o_move (v := (.slice a1 nodes_p.length cap1)) rfl (o_call (args := [(.slice a1 nodes_p.length cap1)]) rfl Try.call23 ?_)))))))
 refine enter Try.func23 rfl rfl rfl ?_
 refine seq_reg (o_box (cs := [(.slice a1 nodes_p.length cap1)]) hS rfl rfl ?_)
 intro b1 w1 hS1
 refine o_assign (v := .nilFunc) rfl (wpList_nil (then_n (seq_reg (o_makefunc (la := []) (lb := [(.pointer (some ⟨b1, 0, none⟩))]) rfl rfl (o_assign (v := (.func (.func 38) #[] #[(.pointer (some ⟨b1, 0, none⟩))])) rfl (wpList_nil (then_n (wp_ret (ret1 rfl (show ev _ _ _ = (.func (.func 38) #[] #[(.pointer (some ⟨b1, 0, none⟩))]) from rfl) ?_)))))))))
 refine ⟨_, rfl, ?_⟩
 refine o_call (args := [(.func (.func 38) #[] #[(.pointer (some ⟨b1, 0, none⟩))])]) rfl Try.call22 ?_
 refine enter Try.func22 rfl rfl rfl ?_
 refine seq_reg (o_assign (v := (.slice none 0 0)) rfl (wpList_nil (then_n (seq_reg (o_move (v := (.func (.func 38) #[] #[(.pointer (some ⟨b1, 0, none⟩))])) rfl (o_call (args := [(.func (.func 38) #[] #[(.pointer (some ⟨b1, 0, none⟩))])]) rfl Try.call37 ?_))))))
 refine enter Try.func37 rfl rfl rfl ?_
 refine seq_reg (o_assign (v := (.slice none 0 0)) rfl (wpList_nil (then_n (seq_reg (o_move (v := (.func (.func 38) #[] #[(.pointer (some ⟨b1, 0, none⟩))])) rfl ?_)))))
 obtain ⟨σ1, hS2, hsub1, hfr1⟩ := hS1.freeze' (i := 0) rfl (notin0 _) rfl
 have hB1 : σ1 b1 = some (.cells #[(.slice a1 nodes_p.length cap1)] 23 (0, 0)) := (hfr1 _ rfl).trans (hS1.get (i := 0) rfl)
 obtain ⟨hsm1, hP⟩ := hP
 refine o_call (args := [(.slice none 0 0), (.func (.func 38) #[] #[(.pointer (some ⟨b1, 0, none⟩))])]) rfl Try.call42 (Calls.mono (c_seq b1 (.slice a1 nodes_p.length cap1) nodes_p hS2.view hB1 (RSl.menc hsub1 hr1) hsm1) ?_)
 rintro _ w2 ⟨v4, rfl, hg1, ho1⟩
 refine ⟨_, rfl, ?_⟩
 have hS3 := hS2.growAdd hg1 (o := vec v4 9 1 nodes_p.length ((nodes_p).flatMap encTx)) ho1
 refine o_assign (v := v4) rfl (wpList_nil (then_n (wp_ret (ret1 rfl (show ev _ _ _ = v4 from rfl) ?_))))
 refine ⟨_, rfl, ?_⟩
 refine o_assign (v := v4) rfl (wpList_nil (then_n (seq_reg (o_move (v := v4) rfl ?_))))
 refine o_call (args := [v4]) rfl Try.call35 (Calls.mono (sort_vec Try.slices_Sort_string Try.slices_Sort_string_none hS3.view (hS3.get (i := 0) rfl) rfl (fun b hb => hS3.off _ (List.mem_of_getElem? (i := 0) rfl) b hb) (by have := hsm1; unfold Sml at this; omega)) ?_)
 rintro _ w3 ⟨rfl, hg2, ho2⟩
 refine ⟨_, rfl, ?_⟩
 have hS4 := hS3.growV (i := 0) (o' := vec v4 9 1 nodes_p.length ((srt nodes_p).flatMap encTx)) rfl hg2 rfl ho2 (ms' := [vec v4 9 1 nodes_p.length ((srt nodes_p).flatMap encTx)]) rfl
 have hS5 := hS4.re (ms' := [vec v4 9 1 ((srt nodes_p).length) ((srt nodes_p).flatMap encTx)]) (by simp only [srt_length])
 refine wpList_nil (then_n (seq_reg (o_move (v := v4) rfl (o_assign (v := v4) rfl (wpList_nil (then_n (wp_ret (ret1 rfl (show ev _ _ _ = v4 from rfl) ?_))))))))
 refine ⟨_, rfl, ?_⟩
 refine o_assign (v := v4) rfl (wpList_nil (then_n (wp_seq (seq_reg (o_move (v := v4) rfl ?_)))))
 obtain ⟨σ2, hS6, hsub2, hr4⟩ := hS5.peek (i := 0) rfl (notin0 _) encTx_len (show Sml (srt nodes_p).length by rw [srt_length]; exact hsm1)
 obtain ⟨Y1, hK1, hc1⟩ := hP
 refine o_call (args := [v4]) rfl Try.call25 (Calls.mono (w_slices_Clone___string_string_ (srt nodes_p) v4 hS6.view hr4 hc1) ?_)
 rintro _ w4 ⟨r1_, v5, rfl, hg3, hl1, ho3, hY1⟩
 refine ⟨_, rfl, ?_⟩
 have hg3b := hg3.back hsub2
 have hS7 := hS5.growAdd hg3b (o := vec v5 9 1 r1_.length ((r1_).flatMap encTx)) (fresh_back ho3 hsub2)
 replace hP := hK1 r1_ hY1
 obtain ⟨hsm2, hP⟩ := hP
 refine o_call (args := [v5]) rfl Try.call24 (Calls.mono (compact_vec Try.slices_Compact_string Try.slices_Compact_string_empty hS7.view (hS7.get (i := 0) rfl) rfl (fun b hb => hS7.off _ (List.mem_of_getElem? (i := 0) rfl) b hb) (by have := hl1; unfold Sml at this; omega)) ?_)
 rintro _ w5 ⟨v6, rfl, hf1, hg4, ho4⟩
 refine ⟨_, rfl, ?_⟩
 have ho5 := vec_one ho4
 have hS8 := hS7.growV (i := 0) (o' := vec v6 9 1 ((cpt r1_).length) ((cpt r1_).flatMap encTx)) rfl hg4 hf1 ho4 (ms' := [vec v6 9 1 ((cpt r1_).length) ((cpt r1_).flatMap encTx), vec v4 9 1 ((srt nodes_p).length) ((srt nodes_p).flatMap encTx)]) rfl
 refine o_len_vec hS8 rfl (i := 0) rfl Try.underlying23 ?_
 have hlen1 : (cpt r1_).length ≤ 9223372036854775807 := by have := hsm2; unfold Sml at this; omega
 replace hP := hP hlen1
 refine o_move (v := v4) rfl (o_len_vec hS8 rfl (i := 1) rfl Try.underlying23 ?_)
 have hlen2 : (srt nodes_p).length ≤ 9223372036854775807 := by have := (show Sml (srt nodes_p).length by rw [srt_length]; exact hsm1); unfold Sml at this; omega
 replace hP := hP hlen2
 refine o_neq (r := (!decide ((((cpt r1_).length : Nat) : Int) = (((srt nodes_p).length : Nat) : Int)))) rfl rfl rfl (wpList_nil (then_n ?_))
 refine if_nd ((((cpt r1_).length : Nat) : Int) = (((srt nodes_p).length : Nat) : Int)) rfl (fun ht1 => ?_) (fun ht1 => ?_)
 ·
  replace hP := hP.2 ht1
  refine seq_reg (o_assign (v := (.slice none 0 0)) rfl (o_assign (v := (.int .i64 (10 : Int))) rfl (wpList_nil (then_n (wp_ret (then_r (ret2 rfl (show ev _ _ _ = (.slice none 0 0) from rfl) (show ev _ _ _ = (.int .i64 (10 : Int)) from rfl) ?_)))))))
  have hS9 := hS8.addNil 9 1
  exact ⟨[], (10 : Int), (.slice none 0 0), rfl, hS9.done.forget, (by simp [Sml]), hS9.own0 (i := 0) rfl, hP⟩
 ·
  replace hP := hP.1 ht1
  refine wp_skip (then_n (seq_reg (o_makemapL 9 1 encTx hS8 ?_)))
  intro b2 w6 hS10
  refine o_alloc (cs := [(.map none)]) hS10 Try.zeroValue52 rfl ?_
  intro b3 w7 hS11
  refine o_store (T := 52) (vs := [(.map (some b2))]) (cs' := [(.map (some b2))]) (ms' := (blk b3 52 [(.map (some b2))] :: smap b2 (asl []) :: vec v6 9 1 ((cpt r1_).length) ((cpt r1_).flatMap encTx) :: vec v4 9 1 ((srt nodes_p).length) ((srt nodes_p).flatMap encTx) :: elems 9 1 encTx [])) (i := 0) hS11 rfl rfl rfl Try.sizeOf52 rfl (ones rfl) rfl (Nat.le_of_ble_eq_true rfl) rfl rfl ?_
  intro w8 hS12
  refine wpList_nil (then_n (wp_seq (seq_reg (o_move (v := (.slice a2 edges_p.length cap2)) rfl (o_len_slice rfl Try.underlying24 ?_)))))
  have hlen3 := RSl.len63 hr2
  replace hP := hP hlen3
  refine o_move (v := (.int .i64 (0 : Int))) rfl (wpList_nil (then_n (wp_block ?_)))
  have hS13 := hS12.front 3 rfl (ms' := (vec v4 9 1 ((srt nodes_p).length) ((srt nodes_p).flatMap encTx) :: blk b3 52 [(.map (some b2))] :: smap b2 (asl []) :: vec v6 9 1 ((cpt r1_).length) ((cpt r1_).flatMap encTx) :: elems 9 1 encTx [])) rfl
  have hS14 := hS13.front 3 rfl (ms' := (vec v6 9 1 ((cpt r1_).length) ((cpt r1_).flatMap encTx) :: vec v4 9 1 ((srt nodes_p).length) ((srt nodes_p).flatMap encTx) :: blk b3 52 [(.map (some b2))] :: smap b2 (asl []) :: elems 9 1 encTx [])) rfl
  have hS15 := hS14.front 2 rfl (ms' := (blk b3 52 [(.map (some b2))] :: vec v6 9 1 ((cpt r1_).length) ((cpt r1_).flatMap encTx) :: vec v4 9 1 ((srt nodes_p).length) ((srt nodes_p).flatMap encTx) :: smap b2 (asl []) :: elems 9 1 encTx [])) rfl
  have hS16 := hS15.front 3 rfl (ms' := (smap b2 (asl []) :: blk b3 52 [(.map (some b2))] :: vec v6 9 1 ((cpt r1_).length) ((cpt r1_).flatMap encTx) :: vec v4 9 1 ((srt nodes_p).length) ((srt nodes_p).flatMap encTx) :: elems 9 1 encTx [])) rfl
  refine lp_loop2 (fun k_3 F_2 f z => ∃ (es2 : EL ByteArray) (σ3 : Hv) (g : Fr), f = (upd (upd (upd (upd (upd g 6 v4) 7 (.pointer (some ⟨b3, 0, none⟩))) 24 (.slice a2 edges_p.length cap2)) 25 (.int .i64 ((edges_p.length : Nat) : Int))) 26 (.int .i64 ((k_3 : Nat) : Int))) ∧ St ⟨w, σ, []⟩ z σ3 (smap b2 (asl es2) :: blk b3 52 [(.map (some b2))] :: vec v6 9 1 ((cpt r1_).length) ((cpt r1_).flatMap encTx) :: vec v4 9 1 ((srt nodes_p).length) ((srt nodes_p).flatMap encTx) :: elems 9 1 encTx es2) ∧ Sub σ1 σ3 ∧ ELF es2 F_2) hP ⟨[], σ1, _, (upd_in rfl (upd_in rfl (upd_in rfl (upd_in rfl (upd_in rfl rfl))))), hS16, (Sub.refl _), ELF.nil⟩ ?_
  clear hP
  rintro k_3 F_2 Y2 hP f w9 ⟨es2, σ3, g, rfl, hS17, hsub3, hF2⟩
  refine seq_reg (o_lss (r := (decide (((k_3 : Nat) : Int) < ((edges_p.length : Nat) : Int)))) rfl rfl rfl (wpList_nil (then_n (wp_seq ?_))))
  refine if_d (((k_3 : Nat) : Int) < ((edges_p.length : Nat) : Int)) rfl (fun ht2 => ?_) (fun ht2 => ?_)
  ·
   replace hP := hP.1 ht2
   refine wp_skip (then_n (wp_seq (wp_block (seq_reg ?_))))
   obtain ⟨x1_, hx1⟩ := getq (l := edges_p) (k := k_3) (by have := ht2; omega)
   replace hP := hP x1_ hx1
   obtain ⟨ad1, cs1, ha1, hl2, hr6, hR1, hlt1⟩ := RSl.at hr2 hx1
   cases hR1
   refine o_iaddr_slice (k := k_3) (a' := (ad1.add (k_3 * 2))) (congrArg (fun z => Value.slice z _ _) ha1) rfl rfl hlt1 Try.underlying24 Try.sizeOf40 rfl (o_loadA (cs := [(.string x1_.1), (.string x1_.2)]) rfl Try.isAgg40 Try.sizeOf40 rfl (hr6.row (View.of (Sub.trans hsub1 hsub3) hS17.view)) (o_alloc (cs := [(.string (⟨#[]⟩ : ByteArray)), (.string (⟨#[]⟩ : ByteArray))]) hS17 Try.zeroValue40 rfl ?_))
   intro b4 w10 hS18
   refine o_store (T := 40) (vs := [(.string x1_.1), (.string x1_.2)]) (cs' := [(.string x1_.1), (.string x1_.2)]) (ms' := (blk b4 40 [(.string x1_.1), (.string x1_.2)] :: smap b2 (asl es2) :: blk b3 52 [(.map (some b2))] :: vec v6 9 1 ((cpt r1_).length) ((cpt r1_).flatMap encTx) :: vec v4 9 1 ((srt nodes_p).length) ((srt nodes_p).flatMap encTx) :: elems 9 1 encTx es2)) (i := 0) hS18 rfl rfl rfl Try.sizeOf40 rfl (ones rfl) rfl (Nat.le_of_ble_eq_true rfl) rfl rfl ?_
   intro w11 hS19
   refine wpList_nil (then_n (wp_seq (seq_reg (o_move (v := v4) rfl (o_faddr (a' := ⟨b4, 0, none⟩) rfl Try.underlying40 rfl Try.sizeOf9 rfl (o_load (v := (.string x1_.1)) rfl Try.isAgg9 (hS19.cell (i := 0) rfl rfl) ?_))))))
   obtain ⟨σ4, hS20, hsub4, hr7⟩ := hS19.peek (i := 4) rfl (notin0 _) encTx_len (show Sml (srt nodes_p).length by rw [srt_length]; exact hsm1)
   obtain ⟨Y3, hK2, hc2⟩ := hP
   refine o_call (args := [v4, (.string x1_.1)]) rfl Try.call26 (Calls.mono (w_slices_Contains___string_string_ (srt nodes_p) x1_.1 v4 hS20.view hr7 hc2) ?_)
   rintro _ w12 ⟨r2_, rfl, hg5, hY2⟩
   refine ⟨_, rfl, ?_⟩
   have hg5b := hg5.back hsub4
   have hS21 := hS19.grow hg5b
   replace hP := hK2 r2_ hY2
   refine o_not (r := (!r2_)) rfl rfl ?_
   rcases Bool.eq_false_or_eq_true (r2_) with hb1 | hb1
   ·
    replace hP := hP.1 hb1
    refine o_move (v := (.bool false)) (congrArg Value.bool (congrArg Bool.not hb1)) (o_on rfl rfl (o_move (v := v4) rfl (o_on rfl rfl (o_faddr (a' := ⟨b4, 1, none⟩) rfl Try.underlying40 rfl Try.sizeOf9 rfl (o_on rfl rfl (o_load (v := (.string x1_.2)) rfl Try.isAgg9 (hS21.cell (i := 0) rfl rfl) (o_on rfl rfl ?_)))))))
    obtain ⟨σ5, hS22, hsub5, hr8⟩ := hS21.peek (i := 4) rfl (notin0 _) encTx_len (show Sml (srt nodes_p).length by rw [srt_length]; exact hsm1)
    obtain ⟨Y4, hK3, hc3⟩ := hP
    refine o_call (args := [v4, (.string x1_.2)]) rfl Try.call26 (Calls.mono (w_slices_Contains___string_string_ (srt nodes_p) x1_.2 v4 hS22.view hr8 hc3) ?_)
    rintro _ w13 ⟨r3_, rfl, hg6, hY3⟩
    refine ⟨_, rfl, ?_⟩
    have hg6b := hg6.back hsub5
    have hS23 := hS21.grow hg6b
    replace hP := hK3 r3_ hY3
    refine o_on rfl rfl (o_not (r := (!r3_)) rfl rfl (o_pick_f (v := (.bool (!r3_))) rfl rfl (wpList_nil (then_n ?_))))
    refine if_nb rfl (fun ht3 => ?_) (fun ht3 => ?_)
    ·
     replace hP := hP.2 (by first | (rw [ht3]; exact Bool.false_ne_true) | simp [ht3])
     refine seq_reg (o_assign (v := (.slice none 0 0)) rfl (o_assign (v := (.int .i64 (11 : Int))) rfl (wpList_nil (then_n (wp_ret (then_r (blk_r (then_r (then_r (blk_r (then_r (ret2 rfl (show ev _ _ _ = (.slice none 0 0) from rfl) (show ev _ _ _ = (.int .i64 (11 : Int)) from rfl) ?_))))))))))))
     have hS24 := hS23.addNil 9 1
     exact ⟨[], (11 : Int), (.slice none 0 0), rfl, hS24.done.forget, (by simp [Sml]), hS24.own0 (i := 0) rfl, hP⟩
    ·
     replace hP := hP.1 ht3
     refine wp_skip (then_n (dr (fun z => St ⟨w, σ, []⟩ z σ3 [blk b4 40 [(.string x1_.1), (.string x1_.2)], blk b3 52 [(.map (some b2))], vec v6 9 1 ((cpt r1_).length) ((cpt r1_).flatMap encTx), vec v4 9 1 ((srt nodes_p).length) ((srt nodes_p).flatMap encTx)]) (by kernel_rfl) rfl ?_))
     have hS25 := hS23.drew
     refine dt 0 1 (v := (.map (some b2))) (by kernel_rfl) rfl rfl (fun _ _ _ h => h) (hS25.sublist (.cons_cons _ (.cons _ (.cons_cons _ (.cons_cons _ (.cons_cons _ (List.nil_sublist _))))))) (fun _ hJ _ hK => o_load (v := (.map (some b2))) rfl Try.isAgg52 (hJ.cell (i := 1) rfl rfl) ⟨rfl, hK⟩) (dt 1 3 (v := (.pointer (some ⟨b4, 0, none⟩))) (by kernel_rfl) rfl rfl (fun _ _ _ h => h) (hS25.sublist (.cons_cons _ (.cons _ (.cons_cons _ (.cons_cons _ (.cons_cons _ (List.nil_sublist _))))))) (fun _ _ _ hK => o_faddr (a' := ⟨b4, 0, none⟩) rfl Try.underlying40 rfl Try.sizeOf9 rfl ⟨rfl, hK⟩) (dt 2 7 (v := (.string x1_.1)) (by kernel_rfl) rfl rfl (fun _ _ _ h => h) (hS25.sublist (.cons_cons _ (.cons _ (.cons_cons _ (.cons_cons _ (.cons_cons _ (List.nil_sublist _))))))) (fun _ hJ _ hK => o_load (v := (.string x1_.1)) rfl Try.isAgg9 (hJ.cell (i := 0) rfl rfl) ⟨rfl, hK⟩) (dt 3 15 (v := (.map (some b2))) (by kernel_rfl) rfl rfl (fun _ _ _ h => h) (hS25.sublist (.cons_cons _ (.cons _ (.cons_cons _ (.cons_cons _ (.cons_cons _ (List.nil_sublist _))))))) (fun _ hJ _ hK => o_load (v := (.map (some b2))) rfl Try.isAgg52 (hJ.cell (i := 1) rfl rfl) ⟨rfl, hK⟩) (dt 4 31 (v := (.pointer (some ⟨b4, 0, none⟩))) (by kernel_rfl) rfl rfl (fun _ _ _ h => h) (hS25.sublist (.cons_cons _ (.cons _ (.cons_cons _ (.cons_cons _ (.cons_cons _ (List.nil_sublist _))))))) (fun _ _ _ hK => o_faddr (a' := ⟨b4, 0, none⟩) rfl Try.underlying40 rfl Try.sizeOf9 rfl ⟨rfl, hK⟩) (dt 5 63 (v := (.string x1_.1)) (by kernel_rfl) rfl rfl (fun _ _ _ h => h) (hS25.sublist (.cons_cons _ (.cons _ (.cons_cons _ (.cons_cons _ (.cons_cons _ (List.nil_sublist _))))))) (fun _ hJ _ hK => o_load (v := (.string x1_.1)) rfl Try.isAgg9 (hJ.cell (i := 0) rfl rfl) ⟨rfl, hK⟩) (dt 7 191 (v := (.pointer (some ⟨b4, 1, none⟩))) (by kernel_rfl) rfl rfl (fun _ _ _ h => h) (hS25.sublist (.cons_cons _ (.cons _ (.cons_cons _ (.cons_cons _ (.cons_cons _ (List.nil_sublist _))))))) (fun _ _ _ hK => o_faddr (a' := ⟨b4, 1, none⟩) rfl Try.underlying40 rfl Try.sizeOf9 rfl ⟨rfl, hK⟩) (dt 8 447 (v := (.string x1_.2)) (by kernel_rfl) rfl rfl (fun _ _ _ h => h) (hS25.sublist (.cons_cons _ (.cons _ (.cons_cons _ (.cons_cons _ (.cons_cons _ (List.nil_sublist _))))))) (fun _ hJ _ hK => o_load (v := (.string x1_.2)) rfl Try.isAgg9 (hJ.cell (i := 0) rfl rfl) ⟨rfl, hK⟩) ?_)))))))
     refine d2 6 9 511 959 (by kernel_rfl) rfl rfl rfl rfl ?_ ?_
     ·
      obtain ⟨v7, hv1⟩ : ∃ v, (asl es2 x1_.1).getD (.slice none 0 0) = v := ⟨_, rfl⟩
      refine o_look (i := 1) (v := v7) hS25 rfl rfl rfl Try.underlying52 Try.underlying9 Try.zeroValue23 hv1 (wpList_nil ?_)
      refine ⟨rfl, (hS25.sublist (.cons_cons _ (.cons _ (.cons_cons _ (.cons_cons _ (.cons_cons _ (List.nil_sublist _))))))), ?_⟩
      refine d1 9 1023 (by kernel_rfl) rfl (o_bslice (cs := [(.string x1_.2)]) (e := 9) hS25 (fun _ => by kernel_rfl) ?_)
      intro b5 w14 hS26
      refine wpList_nil ?_
      refine ⟨rfl, (hS26.sublist (.cons _ (.cons_cons _ (.cons _ (.cons_cons _ (.cons_cons _ (.cons_cons _ (List.nil_sublist _)))))))), ?_⟩
      refine d1 10 2047 (by kernel_rfl) rfl ?_
      obtain ⟨es3, hS27, hL1, hl3⟩ := St.borrow (ms := [blk b5 9 [(.string x1_.2)], blk b4 40 [(.string x1_.1), (.string x1_.2)], smap b2 (asl es2), blk b3 52 [(.map (some b2))], vec v6 9 1 ((cpt r1_).length) ((cpt r1_).flatMap encTx), vec v4 9 1 ((srt nodes_p).length) ((srt nodes_p).flatMap encTx)]) hS26 hF2 x1_.1 hv1
      obtain ⟨hsm3, hP⟩ := hP
      refine o_app (Ms := fun v8 => (vec v8 9 1 ((((F_2 x1_.1).getD []) ++ [x1_.2]).length) ((((F_2 x1_.1).getD []) ++ [x1_.2]).flatMap encTx) :: blk b5 9 [(.string x1_.2)] :: blk b4 40 [(.string x1_.1), (.string x1_.2)] :: smap b2 (asl es2) :: blk b3 52 [(.map (some b2))] :: vec v6 9 1 ((cpt r1_).length) ((cpt r1_).flatMap encTx) :: vec v4 9 1 ((srt nodes_p).length) ((srt nodes_p).flatMap encTx) :: elems 9 1 encTx es3)) (k' := (((F_2 x1_.1).getD []) ++ [x1_.2]).length) (xs' := (((F_2 x1_.1).getD []) ++ [x1_.2]).flatMap encTx) Try.underlying23 Try.type9 rfl rfl (bytes := 16) rfl rfl (Nat.succ_pos _) hS27 rfl (q := 0) rfl rfl rfl (blk_row (hS27.get (i := 1) rfl)) (ones rfl) hsm3 (by omega) (by first | rfl | exact List.length_append.symm | simp) (by simp [encTx]) (fun _ => rfl) ?_
      intro v8 w15 ho6 hS28
      have hS29 := hS28.drop 1 (ms' := (vec v8 9 1 ((((F_2 x1_.1).getD []) ++ [x1_.2]).length) ((((F_2 x1_.1).getD []) ++ [x1_.2]).flatMap encTx) :: blk b4 40 [(.string x1_.1), (.string x1_.2)] :: smap b2 (asl es2) :: blk b3 52 [(.map (some b2))] :: vec v6 9 1 ((cpt r1_).length) ((cpt r1_).flatMap encTx) :: vec v4 9 1 ((srt nodes_p).length) ((srt nodes_p).flatMap encTx) :: elems 9 1 encTx es3)) rfl
      refine wpList_nil ?_
      refine ⟨rfl, (hS29.sublist (.cons _ (.cons_cons _ (.cons _ (.cons_cons _ (.cons_cons _ (.cons_cons _ (List.nil_sublist _)))))))), ?_⟩
      refine d1 11 4095 (by kernel_rfl) rfl (o_put (v := v8) (i := 2) (ms' := (vec v8 9 1 ((((F_2 x1_.1).getD []) ++ [x1_.2]).length) ((((F_2 x1_.1).getD []) ++ [x1_.2]).flatMap encTx) :: blk b4 40 [(.string x1_.1), (.string x1_.2)] :: smap b2 (fun k' => if k' = x1_.1 then some v8 else asl es2 k') :: blk b3 52 [(.map (some b2))] :: vec v6 9 1 ((cpt r1_).length) ((cpt r1_).flatMap encTx) :: vec v4 9 1 ((srt nodes_p).length) ((srt nodes_p).flatMap encTx) :: elems 9 1 encTx es3)) hS29 rfl rfl rfl rfl Try.underlying52 Try.underlying9 rfl ?_)
      intro w16 hS30
      have hS32 := St.giveback (ms := [blk b4 40 [(.string x1_.1), (.string x1_.2)], smap b2 (fun k' => if k' = x1_.1 then some v8 else asl es2 k'), blk b3 52 [(.map (some b2))], vec v6 9 1 ((cpt r1_).length) ((cpt r1_).flatMap encTx), vec v4 9 1 ((srt nodes_p).length) ((srt nodes_p).flatMap encTx)]) (ms' := [blk b4 40 [(.string x1_.1), (.string x1_.2)], smap b2 (asl ((x1_.1, v8, ((F_2 x1_.1).getD []) ++ [x1_.2]) :: es3)), blk b3 52 [(.map (some b2))], vec v6 9 1 ((cpt r1_).length) ((cpt r1_).flatMap encTx), vec v4 9 1 ((srt nodes_p).length) ((srt nodes_p).flatMap encTx)]) (i := 1) hS30 hL1 rfl rfl
      have hF3 := ELF.put (v := v8) hF2 hL1 hsm3
      refine wpList_nil ?_
      refine ⟨rfl, (hS32.sublist (.cons_cons _ (.cons _ (.cons_cons _ (.cons_cons _ (.cons_cons _ (List.nil_sublist _))))))), wpJ_weak (J' := fun z => St ⟨w, σ, []⟩ z σ3 (blk b4 40 [(.string x1_.1), (.string x1_.2)] :: smap b2 (asl ((x1_.1, v8, ((F_2 x1_.1).getD []) ++ [x1_.2]) :: es3)) :: blk b3 52 [(.map (some b2))] :: vec v6 9 1 ((cpt r1_).length) ((cpt r1_).flatMap encTx) :: vec v4 9 1 ((srt nodes_p).length) ((srt nodes_p).flatMap encTx) :: elems 9 1 encTx ((x1_.1, v8, ((F_2 x1_.1).getD []) ++ [x1_.2]) :: es3))) (fun w h => h.sublist (.cons_cons _ (.cons _ (.cons_cons _ (.cons_cons _ (.cons_cons _ (List.nil_sublist _))))))) _ _ _ _ ?_⟩
      refine dz (by kernel_rfl) (blk_n (then_n (one_reg (o_add (r := ((k_3 + 1 : Nat) : Int)) rfl rfl (nw (by omega) (by omega) (by have := hlen3; omega)) (o_move (v := (.int .i64 ((k_3 + 1 : Nat) : Int))) rfl (wpList_nil (then_n ?_)))))))
      exact ⟨k_3 + 1, (put F_2 x1_.1 (((F_2 x1_.1).getD []) ++ [x1_.2])), _, rfl, hP, ((x1_.1, v8, ((F_2 x1_.1).getD []) ++ [x1_.2]) :: es3), σ3, _, (upd_in rfl (upd_in rfl (upd_in rfl (upd_in rfl (upd_in rfl rfl))))), (hS32.sublist (ms' := (smap b2 (asl ((x1_.1, v8, ((F_2 x1_.1).getD []) ++ [x1_.2]) :: es3)) :: blk b3 52 [(.map (some b2))] :: vec v6 9 1 ((cpt r1_).length) ((cpt r1_).flatMap encTx) :: vec v4 9 1 ((srt nodes_p).length) ((srt nodes_p).flatMap encTx) :: elems 9 1 encTx ((x1_.1, v8, ((F_2 x1_.1).getD []) ++ [x1_.2]) :: es3))) (.cons _ (List.Sublist.refl _))), hsub3, hF3⟩
     ·
      refine o_bslice (cs := [(.string x1_.2)]) (e := 9) hS25 (fun _ => by kernel_rfl) ?_
      intro b5 w14 hS26
      refine wpList_nil ?_
      refine ⟨rfl, (hS26.sublist (.cons _ (.cons_cons _ (.cons _ (.cons_cons _ (.cons_cons _ (.cons_cons _ (List.nil_sublist _)))))))), ?_⟩
      refine d1 6 1023 (by kernel_rfl) rfl ?_
      obtain ⟨v7, hv1⟩ : ∃ v, (asl es2 x1_.1).getD (.slice none 0 0) = v := ⟨_, rfl⟩
      refine o_look (i := 2) (v := v7) hS26 rfl rfl rfl Try.underlying52 Try.underlying9 Try.zeroValue23 hv1 (wpList_nil ?_)
      refine ⟨rfl, (hS26.sublist (.cons _ (.cons_cons _ (.cons _ (.cons_cons _ (.cons_cons _ (.cons_cons _ (List.nil_sublist _)))))))), ?_⟩
      refine d1 10 2047 (by kernel_rfl) rfl ?_
      obtain ⟨es3, hS27, hL1, hl3⟩ := St.borrow (ms := [blk b5 9 [(.string x1_.2)], blk b4 40 [(.string x1_.1), (.string x1_.2)], smap b2 (asl es2), blk b3 52 [(.map (some b2))], vec v6 9 1 ((cpt r1_).length) ((cpt r1_).flatMap encTx), vec v4 9 1 ((srt nodes_p).length) ((srt nodes_p).flatMap encTx)]) hS26 hF2 x1_.1 hv1
      obtain ⟨hsm3, hP⟩ := hP
      refine o_app (Ms := fun v8 => (vec v8 9 1 ((((F_2 x1_.1).getD []) ++ [x1_.2]).length) ((((F_2 x1_.1).getD []) ++ [x1_.2]).flatMap encTx) :: blk b5 9 [(.string x1_.2)] :: blk b4 40 [(.string x1_.1), (.string x1_.2)] :: smap b2 (asl es2) :: blk b3 52 [(.map (some b2))] :: vec v6 9 1 ((cpt r1_).length) ((cpt r1_).flatMap encTx) :: vec v4 9 1 ((srt nodes_p).length) ((srt nodes_p).flatMap encTx) :: elems 9 1 encTx es3)) (k' := (((F_2 x1_.1).getD []) ++ [x1_.2]).length) (xs' := (((F_2 x1_.1).getD []) ++ [x1_.2]).flatMap encTx) Try.underlying23 Try.type9 rfl rfl (bytes := 16) rfl rfl (Nat.succ_pos _) hS27 rfl (q := 0) rfl rfl rfl (blk_row (hS27.get (i := 1) rfl)) (ones rfl) hsm3 (by omega) (by first | rfl | exact List.length_append.symm | simp) (by simp [encTx]) (fun _ => rfl) ?_
      intro v8 w15 ho6 hS28
      have hS29 := hS28.drop 1 (ms' := (vec v8 9 1 ((((F_2 x1_.1).getD []) ++ [x1_.2]).length) ((((F_2 x1_.1).getD []) ++ [x1_.2]).flatMap encTx) :: blk b4 40 [(.string x1_.1), (.string x1_.2)] :: smap b2 (asl es2) :: blk b3 52 [(.map (some b2))] :: vec v6 9 1 ((cpt r1_).length) ((cpt r1_).flatMap encTx) :: vec v4 9 1 ((srt nodes_p).length) ((srt nodes_p).flatMap encTx) :: elems 9 1 encTx es3)) rfl
      refine wpList_nil ?_
      refine ⟨rfl, (hS29.sublist (.cons _ (.cons_cons _ (.cons _ (.cons_cons _ (.cons_cons _ (.cons_cons _ (List.nil_sublist _)))))))), ?_⟩
      refine d1 11 4095 (by kernel_rfl) rfl (o_put (v := v8) (i := 2) (ms' := (vec v8 9 1 ((((F_2 x1_.1).getD []) ++ [x1_.2]).length) ((((F_2 x1_.1).getD []) ++ [x1_.2]).flatMap encTx) :: blk b4 40 [(.string x1_.1), (.string x1_.2)] :: smap b2 (fun k' => if k' = x1_.1 then some v8 else asl es2 k') :: blk b3 52 [(.map (some b2))] :: vec v6 9 1 ((cpt r1_).length) ((cpt r1_).flatMap encTx) :: vec v4 9 1 ((srt nodes_p).length) ((srt nodes_p).flatMap encTx) :: elems 9 1 encTx es3)) hS29 rfl rfl rfl rfl Try.underlying52 Try.underlying9 rfl ?_)
      intro w16 hS30
      have hS32 := St.giveback (ms := [blk b4 40 [(.string x1_.1), (.string x1_.2)], smap b2 (fun k' => if k' = x1_.1 then some v8 else asl es2 k'), blk b3 52 [(.map (some b2))], vec v6 9 1 ((cpt r1_).length) ((cpt r1_).flatMap encTx), vec v4 9 1 ((srt nodes_p).length) ((srt nodes_p).flatMap encTx)]) (ms' := [blk b4 40 [(.string x1_.1), (.string x1_.2)], smap b2 (asl ((x1_.1, v8, ((F_2 x1_.1).getD []) ++ [x1_.2]) :: es3)), blk b3 52 [(.map (some b2))], vec v6 9 1 ((cpt r1_).length) ((cpt r1_).flatMap encTx), vec v4 9 1 ((srt nodes_p).length) ((srt nodes_p).flatMap encTx)]) (i := 1) hS30 hL1 rfl rfl
      have hF3 := ELF.put (v := v8) hF2 hL1 hsm3
      refine wpList_nil ?_
      refine ⟨rfl, (hS32.sublist (.cons_cons _ (.cons _ (.cons_cons _ (.cons_cons _ (.cons_cons _ (List.nil_sublist _))))))), wpJ_weak (J' := fun z => St ⟨w, σ, []⟩ z σ3 (blk b4 40 [(.string x1_.1), (.string x1_.2)] :: smap b2 (asl ((x1_.1, v8, ((F_2 x1_.1).getD []) ++ [x1_.2]) :: es3)) :: blk b3 52 [(.map (some b2))] :: vec v6 9 1 ((cpt r1_).length) ((cpt r1_).flatMap encTx) :: vec v4 9 1 ((srt nodes_p).length) ((srt nodes_p).flatMap encTx) :: elems 9 1 encTx ((x1_.1, v8, ((F_2 x1_.1).getD []) ++ [x1_.2]) :: es3))) (fun w h => h.sublist (.cons_cons _ (.cons _ (.cons_cons _ (.cons_cons _ (.cons_cons _ (List.nil_sublist _))))))) _ _ _ _ ?_⟩
      refine dz (by kernel_rfl) (blk_n (then_n (one_reg (o_add (r := ((k_3 + 1 : Nat) : Int)) rfl rfl (nw (by omega) (by omega) (by have := hlen3; omega)) (o_move (v := (.int .i64 ((k_3 + 1 : Nat) : Int))) rfl (wpList_nil (then_n ?_)))))))
      exact ⟨k_3 + 1, (put F_2 x1_.1 (((F_2 x1_.1).getD []) ++ [x1_.2])), _, rfl, hP, ((x1_.1, v8, ((F_2 x1_.1).getD []) ++ [x1_.2]) :: es3), σ3, _, (upd_in rfl (upd_in rfl (upd_in rfl (upd_in rfl (upd_in rfl rfl))))), (hS32.sublist (ms' := (smap b2 (asl ((x1_.1, v8, ((F_2 x1_.1).getD []) ++ [x1_.2]) :: es3)) :: blk b3 52 [(.map (some b2))] :: vec v6 9 1 ((cpt r1_).length) ((cpt r1_).flatMap encTx) :: vec v4 9 1 ((srt nodes_p).length) ((srt nodes_p).flatMap encTx) :: elems 9 1 encTx ((x1_.1, v8, ((F_2 x1_.1).getD []) ++ [x1_.2]) :: es3))) (.cons _ (List.Sublist.refl _))), hsub3, hF3⟩
   ·
    replace hP := hP.2 (by first | (rw [hb1]; exact Bool.false_ne_true) | simp [hb1])
    refine o_move (v := (.bool true)) (congrArg Value.bool (congrArg Bool.not hb1)) (o_off rfl rfl (o_off rfl rfl (o_off rfl rfl (o_off rfl rfl (o_off rfl rfl (o_pick_t (v := (.bool true)) rfl rfl (wpList_nil (then_n (if_t rfl (seq_reg (o_assign (v := (.slice none 0 0)) rfl (o_assign (v := (.int .i64 (11 : Int))) rfl (wpList_nil (then_n (wp_ret (then_r (blk_r (then_r (then_r (blk_r (then_r (ret2 rfl (show ev _ _ _ = (.slice none 0 0) from rfl) (show ev _ _ _ = (.int .i64 (11 : Int)) from rfl) ?_))))))))))))))))))))))
    have hS33 := hS21.addNil 9 1
    exact ⟨[], (11 : Int), (.slice none 0 0), rfl, hS33.done.forget, (by simp [Sml]), hS33.own0 (i := 0) rfl, hP⟩
  ·
   replace hP := hP.2 ht2
   refine wp_exit (then_e (then_e (blk_hit (then_n (seq_reg (o_assign (v := (.slice none 0 0)) rfl (wpList_nil (then_n (seq_reg (o_emake (fun y : Bool => (Value.bool (y))) hS17 ?_))))))))))
   intro b6 w17 hS34
   refine o_alloc (cs := [(.map none)]) hS34 Try.zeroValue53 rfl ?_
   intro b7 w18 hS35
   refine o_store (T := 53) (vs := [(.map (some b6))]) (cs' := [(.map (some b6))]) (ms' := (blk b7 53 [(.map (some b6))] :: emap b6 (fun y : Bool => (Value.bool (y))) (fun _ => none) :: smap b2 (asl es2) :: blk b3 52 [(.map (some b2))] :: vec v6 9 1 ((cpt r1_).length) ((cpt r1_).flatMap encTx) :: vec v4 9 1 ((srt nodes_p).length) ((srt nodes_p).flatMap encTx) :: elems 9 1 encTx es2)) (i := 0) hS35 rfl rfl rfl Try.sizeOf53 rfl (ones rfl) rfl (Nat.le_of_ble_eq_true rfl) rfl rfl ?_
   intro w19 hS36
   refine wpList_nil (then_n (wp_seq (wp_block ?_)))
   obtain ⟨σ6, hS37, hsub6, hr9⟩ := St.freezeL (ms := [blk b7 53 [(.map (some b6))], emap b6 (fun y : Bool => (Value.bool (y))) (fun _ => none), smap b2 (asl es2), blk b3 52 [(.map (some b2))], vec v6 9 1 ((cpt r1_).length) ((cpt r1_).flatMap encTx), vec v4 9 1 ((srt nodes_p).length) ((srt nodes_p).flatMap encTx)]) (ms' := [blk b7 53 [(.map (some b6))], emap b6 (fun y : Bool => (Value.bool (y))) (fun _ => none), blk b3 52 [(.map (some b2))], vec v6 9 1 ((cpt r1_).length) ((cpt r1_).flatMap encTx), vec v4 9 1 ((srt nodes_p).length) ((srt nodes_p).flatMap encTx)]) (i := 2) hS36 hF2 encTx_len rfl rfl rfl
   have hS38 := hS37.addNil 9 1
   have hS39 := hS38.front 4 rfl (ms' := [vec v6 9 1 ((cpt r1_).length) ((cpt r1_).flatMap encTx), vec (.slice none 0 0) 9 1 0 [], blk b7 53 [(.map (some b6))], emap b6 (fun y : Bool => (Value.bool (y))) (fun _ => none), blk b3 52 [(.map (some b2))], vec v4 9 1 ((srt nodes_p).length) ((srt nodes_p).flatMap encTx)]) rfl
   have hS40 := hS39.front 4 rfl (ms' := [blk b3 52 [(.map (some b2))], vec v6 9 1 ((cpt r1_).length) ((cpt r1_).flatMap encTx), vec (.slice none 0 0) 9 1 0 [], blk b7 53 [(.map (some b6))], emap b6 (fun y : Bool => (Value.bool (y))) (fun _ => none), vec v4 9 1 ((srt nodes_p).length) ((srt nodes_p).flatMap encTx)]) rfl
   have hS41 := hS40.front 3 rfl (ms' := [blk b7 53 [(.map (some b6))], blk b3 52 [(.map (some b2))], vec v6 9 1 ((cpt r1_).length) ((cpt r1_).flatMap encTx), vec (.slice none 0 0) 9 1 0 [], emap b6 (fun y : Bool => (Value.bool (y))) (fun _ => none), vec v4 9 1 ((srt nodes_p).length) ((srt nodes_p).flatMap encTx)]) rfl
   have hS42 := hS41.front 4 rfl (ms' := [emap b6 (fun y : Bool => (Value.bool (y))) (fun _ => none), blk b7 53 [(.map (some b6))], blk b3 52 [(.map (some b2))], vec v6 9 1 ((cpt r1_).length) ((cpt r1_).flatMap encTx), vec (.slice none 0 0) 9 1 0 [], vec v4 9 1 ((srt nodes_p).length) ((srt nodes_p).flatMap encTx)]) rfl
   have hS43 := hS42.front 4 rfl (ms' := [vec (.slice none 0 0) 9 1 0 [], emap b6 (fun y : Bool => (Value.bool (y))) (fun _ => none), blk b7 53 [(.map (some b6))], blk b3 52 [(.map (some b2))], vec v6 9 1 ((cpt r1_).length) ((cpt r1_).flatMap encTx), vec v4 9 1 ((srt nodes_p).length) ((srt nodes_p).flatMap encTx)]) rfl
   have hS44 := hS43.front 5 rfl (ms' := [vec v4 9 1 ((srt nodes_p).length) ((srt nodes_p).flatMap encTx), vec (.slice none 0 0) 9 1 0 [], emap b6 (fun y : Bool => (Value.bool (y))) (fun _ => none), blk b7 53 [(.map (some b6))], blk b3 52 [(.map (some b2))], vec v6 9 1 ((cpt r1_).length) ((cpt r1_).flatMap encTx)]) rfl
   refine lp_loop3 (fun left_3 out_3 F_4 f z => ∃ (v13 : Value) (v14 : Value) (σ7 : Hv) (g : Fr), f = (upd (upd (upd (upd g 6 v13) 7 (.pointer (some ⟨b3, 0, none⟩))) 10 v14) 11 (.pointer (some ⟨b7, 0, none⟩))) ∧ St ⟨w, σ, []⟩ z σ7 [vec v13 9 1 left_3.length ((left_3).flatMap encTx), vec v14 9 1 out_3.length ((out_3).flatMap encTx), emap b6 (fun y : Bool => (Value.bool (y))) F_4, blk b7 53 [(.map (some b6))], blk b3 52 [(.map (some b2))], vec v6 9 1 ((cpt r1_).length) ((cpt r1_).flatMap encTx)] ∧ Sub σ6 σ7 ∧ v13.oneCell' = true ∧ Sml left_3.length ∧ v14.oneCell' = true ∧ Sml out_3.length) hP ⟨v4, (.slice none 0 0), σ6, _, (upd_in rfl (upd_in rfl (upd_in rfl (upd_in rfl rfl)))), hS44, (Sub.refl _), (vec_one ho1.1), (show Sml (srt nodes_p).length by rw [srt_length]; exact hsm1), rfl, (by simp [Sml])⟩ ?_
   clear hP
   rintro left_3 out_3 F_4 Y5 hP f w20 ⟨v13, v14, σ7, g, rfl, hS45, hsub7, ho11, hl8, ho12, hl9⟩
   refine wp_seq (seq_reg (o_move (v := v13) rfl (o_len_vec hS45 rfl (i := 0) rfl Try.underlying23 ?_)))
   have hlen4 : left_3.length ≤ 9223372036854775807 := by have := hl8; unfold Sml at this; omega
   replace hP := hP hlen4
   refine o_gtr (r := (decide ((0 : Int) < ((left_3.length : Nat) : Int)))) rfl rfl rfl (wpList_nil (then_n ?_))
   refine if_d ((0 : Int) < ((left_3.length : Nat) : Int)) rfl (fun ht4 => ?_) (fun ht4 => ?_)
   ·
    replace hP := hP.1 ht4
    refine wp_skip (then_n (wp_block (seq_reg (o_move (v := v13) rfl (o_makefunc (la := []) (lb := [(.pointer (some ⟨b3, 0, none⟩)), (.pointer (some ⟨b7, 0, none⟩))]) rfl rfl ?_)))))
    obtain ⟨Y6, hK4, hP⟩ := hP
    refine o_call (args := [v13, (.func (.func 28) #[] #[(.pointer (some ⟨b3, 0, none⟩)), (.pointer (some ⟨b7, 0, none⟩))])]) rfl Try.call27 (Calls.mono (R := fun e z => ∃ (r_1 : Int) (σ8 : Hv), e = .returned (.int .i64 r_1) ∧ Y6 r_1 ∧ St ⟨w, σ, []⟩ z σ8 [vec v13 9 1 left_3.length ((left_3).flatMap encTx), vec v14 9 1 out_3.length ((out_3).flatMap encTx), emap b6 (fun y : Bool => (Value.bool (y))) F_4, blk b7 53 [(.map (some b6))], blk b3 52 [(.map (some b2))], vec v6 9 1 ((cpt r1_).length) ((cpt r1_).flatMap encTx)] ∧ Sub σ7 σ8) ?_ ?_)
    ·
     refine enter Try.func27 rfl rfl rfl ?_
     refine seq_reg (o_assign (v := (.int .i64 (0 : Int))) rfl (wpList_nil (then_n (wp_seq (seq_reg (o_move (v := v13) rfl (o_len_vec hS45 rfl (i := 0) rfl Try.underlying23 (o_move (v := (.int .i64 (0 : Int))) rfl (wpList_nil (then_n (wp_block ?_)))))))))))
     refine lp_loop1 (fun k_5 f z => ∃ (σ9 : Hv) (g : Fr), f = (upd (upd (upd (upd g 0 v13) 1 (.func (.func 28) #[] #[(.pointer (some ⟨b3, 0, none⟩)), (.pointer (some ⟨b7, 0, none⟩))])) 7 (.int .i64 ((left_3.length : Nat) : Int))) 8 (.int .i64 ((k_5 : Nat) : Int))) ∧ St ⟨w, σ, []⟩ z σ9 [vec v13 9 1 left_3.length ((left_3).flatMap encTx), vec v14 9 1 out_3.length ((out_3).flatMap encTx), emap b6 (fun y : Bool => (Value.bool (y))) F_4, blk b7 53 [(.map (some b6))], blk b3 52 [(.map (some b2))], vec v6 9 1 ((cpt r1_).length) ((cpt r1_).flatMap encTx)] ∧ Sub σ7 σ9) hP ⟨σ7, _, (upd_in rfl (upd_in rfl (upd_in rfl (upd_in rfl rfl)))), hS45, (Sub.refl _)⟩ ?_
     clear hP
     rintro k_5 Y7 hP f w21 ⟨σ9, g, rfl, hS46, hsub9⟩
     refine seq_reg (o_lss (r := (decide (((k_5 : Nat) : Int) < ((left_3.length : Nat) : Int)))) rfl rfl rfl (wpList_nil (then_n (wp_seq ?_))))
     refine if_d (((k_5 : Nat) : Int) < ((left_3.length : Nat) : Int)) rfl (fun ht5 => ?_) (fun ht5 => ?_)
     ·
      replace hP := hP.1 ht5
      refine wp_skip (then_n (wp_seq (wp_block (seq_reg (o_move (v := (.int .i64 ((k_5 : Nat) : Int))) rfl (o_assign (v := (.int .i64 ((k_5 : Nat) : Int))) rfl (wpList_nil (then_n (seq_reg (o_move (v := (.func (.func 28) #[] #[(.pointer (some ⟨b3, 0, none⟩)), (.pointer (some ⟨b7, 0, none⟩))])) rfl (o_move (v := v13) rfl (o_move (v := (.int .i64 ((k_5 : Nat) : Int))) rfl ?_))))))))))))
      obtain ⟨x2_, hx2⟩ := getq (l := left_3) (k := k_5) (by have := ht5; omega)
      replace hP := hP x2_ hx2
      obtain ⟨g1, cp1, hv2⟩ := vec_posv (hS46.get (i := 0) rfl) (lt_of_getq hx2)
      refine o_iaddr_slice (k := k_5) (a' := ⟨g1, k_5 * 1, none⟩) hv2 rfl rfl (lt_of_getq hx2) Try.underlying23 Try.sizeOf9 (by simp [addr_lit]) (o_load (v := (.string x2_)) rfl Try.isAgg9 (vec_cellv encTx_len (j := 0) hv2 (hS46.get (i := 0) rfl) hx2 rfl) (o_callv (args := [(.string x2_), (.pointer (some ⟨b3, 0, none⟩)), (.pointer (some ⟨b7, 0, none⟩))]) rfl rfl Try.call28 ?_))
      refine enter Try.func28 rfl rfl rfl ?_
      refine seq_reg (o_assign (v := (.bool false)) rfl (wpList_nil (then_n (seq_reg (o_load (v := (.map (some b2))) rfl Try.isAgg52 (hS46.cell (i := 4) rfl rfl) (o_move (v := (.string x2_)) rfl ?_))))))
      obtain ⟨v15, hl10, hz1⟩ := RMp.at (z := .slice none 0 0) (z0 := []) RSl.nil hr9 x2_
      obtain ⟨a3, cap3, rfl⟩ := hz1.shape
      refine o_lookR (v := (.slice a3 ((F_2 x2_).getD []).length cap3)) hl10 (View.of (Sub.trans hsub7 hsub9) hS46.view) rfl rfl Try.underlying52 Try.underlying9 Try.zeroValue23 (o_makefunc (la := []) (lb := [(.pointer (some ⟨b7, 0, none⟩))]) rfl rfl (o_call (args := [(.slice a3 ((F_2 x2_).getD []).length cap3), (.func (.func 30) #[] #[(.pointer (some ⟨b7, 0, none⟩))])]) rfl Try.call29 ?_))
      refine enter Try.func29 rfl rfl rfl ?_
      refine seq_reg (o_assign (v := (.bool false)) rfl (wpList_nil (then_n (seq_reg (o_move (v := (.slice a3 ((F_2 x2_).getD []).length cap3)) rfl (o_move (v := (.func (.func 30) #[] #[(.pointer (some ⟨b7, 0, none⟩))])) rfl ?_))))))
      obtain ⟨Y8, hK5, hP⟩ := hP
      refine o_call (args := [(.slice a3 ((F_2 x2_).getD []).length cap3), (.func (.func 30) #[] #[(.pointer (some ⟨b7, 0, none⟩))])]) rfl Try.call27 (Calls.mono (R := fun e z => ∃ (r_2 : Int) (σ10 : Hv), e = .returned (.int .i64 r_2) ∧ Y8 r_2 ∧ St ⟨w, σ, []⟩ z σ10 [vec v13 9 1 left_3.length ((left_3).flatMap encTx), vec v14 9 1 out_3.length ((out_3).flatMap encTx), emap b6 (fun y : Bool => (Value.bool (y))) F_4, blk b7 53 [(.map (some b6))], blk b3 52 [(.map (some b2))], vec v6 9 1 ((cpt r1_).length) ((cpt r1_).flatMap encTx)] ∧ Sub σ9 σ10) ?_ ?_)
      ·
       refine enter Try.func27 rfl rfl rfl ?_
       refine seq_reg (o_assign (v := (.int .i64 (0 : Int))) rfl (wpList_nil (then_n (wp_seq (seq_reg (o_move (v := (.slice a3 ((F_2 x2_).getD []).length cap3)) rfl (o_len_slice rfl Try.underlying23 ?_)))))))
       have hlen6 := RSl.len63 hz1
       replace hP := hP hlen6
       refine o_move (v := (.int .i64 (0 : Int))) rfl (wpList_nil (then_n (wp_block ?_)))
       refine lp_loop1 (fun k_7 f z => ∃ (σ11 : Hv) (g : Fr), f = (upd (upd (upd (upd g 0 (.slice a3 ((F_2 x2_).getD []).length cap3)) 1 (.func (.func 30) #[] #[(.pointer (some ⟨b7, 0, none⟩))])) 7 (.int .i64 ((((F_2 x2_).getD []).length : Nat) : Int))) 8 (.int .i64 ((k_7 : Nat) : Int))) ∧ St ⟨w, σ, []⟩ z σ11 [vec v13 9 1 left_3.length ((left_3).flatMap encTx), vec v14 9 1 out_3.length ((out_3).flatMap encTx), emap b6 (fun y : Bool => (Value.bool (y))) F_4, blk b7 53 [(.map (some b6))], blk b3 52 [(.map (some b2))], vec v6 9 1 ((cpt r1_).length) ((cpt r1_).flatMap encTx)] ∧ Sub σ9 σ11) hP ⟨σ9, _, (upd_in rfl (upd_in rfl (upd_in rfl (upd_in rfl rfl)))), hS46, (Sub.refl _)⟩ ?_
       clear hP
       rintro k_7 Y9 hP f w22 ⟨σ11, g, rfl, hS47, hsub11⟩
       refine seq_reg (o_lss (r := (decide (((k_7 : Nat) : Int) < ((((F_2 x2_).getD []).length : Nat) : Int)))) rfl rfl rfl (wpList_nil (then_n (wp_seq ?_))))
       refine if_d (((k_7 : Nat) : Int) < ((((F_2 x2_).getD []).length : Nat) : Int)) rfl (fun ht6 => ?_) (fun ht6 => ?_)
       ·
        replace hP := hP.1 ht6
        refine wp_skip (then_n (wp_seq (wp_block (seq_reg (o_move (v := (.int .i64 ((k_7 : Nat) : Int))) rfl (o_assign (v := (.int .i64 ((k_7 : Nat) : Int))) rfl (wpList_nil (then_n (seq_reg (o_move (v := (.func (.func 30) #[] #[(.pointer (some ⟨b7, 0, none⟩))])) rfl (o_move (v := (.slice a3 ((F_2 x2_).getD []).length cap3)) rfl (o_move (v := (.int .i64 ((k_7 : Nat) : Int))) rfl ?_))))))))))))
        obtain ⟨x3_, hx3⟩ := getq (l := ((F_2 x2_).getD [])) (k := k_7) (by have := ht6; omega)
        replace hP := hP x3_ hx3
        obtain ⟨ad2, cs2, ha2, hl11, hr10, hR2, hlt2⟩ := RSl.at hz1 hx3
        cases hR2
        refine o_iaddr_slice (k := k_7) (a' := (ad2.add (k_7 * 1))) (congrArg (fun z => Value.slice z _ _) ha2) rfl rfl hlt2 Try.underlying23 Try.sizeOf9 rfl (o_load (v := (.string x3_)) rfl Try.isAgg9 (hr10.cell (View.of (Sub.trans (Sub.trans hsub7 hsub9) hsub11) hS47.view) 0 rfl rfl) (o_callv (args := [(.string x3_), (.pointer (some ⟨b7, 0, none⟩))]) rfl rfl Try.call30 ?_))
        refine enter Try.func30 rfl rfl rfl ?_
        refine seq_reg (o_assign (v := (.bool false)) rfl (wpList_nil (then_n (seq_reg (o_load (v := (.map (some b6))) rfl Try.isAgg53 (hS47.cell (i := 3) rfl rfl) (o_move (v := (.string x3_)) rfl (o_elook (v := (.bool (((F_4 x3_).getD false)))) (i := 2) hS47 rfl rfl rfl Try.underlying53 Try.underlying9 Try.zeroValue4 (getD_enc (fun y : Bool => (Value.bool (y))) _ rfl) (o_not (r := (!((F_4 x3_).getD false))) rfl rfl (o_assign (v := (.bool (!((F_4 x3_).getD false)))) rfl (wpList_nil (then_n (wp_ret (ret1 rfl (show ev _ _ _ = (.bool (!((F_4 x3_).getD false))) from rfl) ?_)))))))))))))
        refine ⟨_, rfl, ?_⟩
        refine wpList_nil (then_n ?_)
        refine if_nb rfl (fun ht7 => ?_) (fun ht7 => ?_)
        ·
         replace hP := hP.2 (by first | (rw [ht7]; exact Bool.false_ne_true) | simp [ht7])
         refine seq_reg (o_move (v := (.int .i64 ((k_7 : Nat) : Int))) rfl (o_assign (v := (.int .i64 ((k_7 : Nat) : Int))) rfl (wpList_nil (then_n (wp_ret (blk_r (then_r (then_r (blk_r (then_r (ret1 rfl (show ev _ _ _ = (.int .i64 ((k_7 : Nat) : Int)) from rfl) ?_)))))))))))
         exact ⟨((k_7 : Nat) : Int), σ11, rfl, hP, hS47, hsub11⟩
        ·
         replace hP := hP.1 ht7
         refine wp_skip (blk_n (then_n (one_reg (o_add (r := ((k_7 + 1 : Nat) : Int)) rfl rfl (nw (by omega) (by omega) (by have := hlen6; omega)) (o_move (v := (.int .i64 ((k_7 + 1 : Nat) : Int))) rfl (wpList_nil (then_n ?_)))))))
         exact ⟨k_7 + 1, _, rfl, hP, σ11, _, (upd_in rfl (upd_in rfl (upd_in rfl (upd_in rfl rfl)))), hS47, hsub11⟩
       ·
        replace hP := hP.2 ht6
        refine wp_exit (then_e (then_e (blk_hit (then_n (seq_reg (o_assign (v := (.int .i64 (-1 : Int))) rfl (wpList_nil (then_n (wp_ret (ret1 rfl (show ev _ _ _ = (.int .i64 (-1 : Int)) from rfl) ?_))))))))))
        exact ⟨(-1 : Int), σ11, rfl, hP, hS47, hsub11⟩
      ·
       rintro _ w23 ⟨r_2, σ10, rfl, hY4, hS48, hsub10⟩
       refine ⟨_, rfl, ?_⟩
       replace hP := hK5 r_2 hY4
       refine o_geq (r := (decide ((0 : Int) ≤ r_2))) rfl rfl rfl (o_assign (v := (.bool (decide ((0 : Int) ≤ r_2)))) rfl (wpList_nil (then_n (wp_ret (ret1 rfl (show ev _ _ _ = (.bool (decide ((0 : Int) ≤ r_2))) from rfl) ?_)))))
       refine ⟨_, rfl, ?_⟩
       refine o_not (r := (!decide ((0 : Int) ≤ r_2))) rfl rfl (o_assign (v := (.bool (!decide ((0 : Int) ≤ r_2)))) rfl (wpList_nil (then_n (wp_ret (ret1 rfl (show ev _ _ _ = (.bool (!decide ((0 : Int) ≤ r_2))) from rfl) ?_)))))
       refine ⟨_, rfl, ?_⟩
       refine wpList_nil (then_n ?_)
       refine if_nd ((0 : Int) ≤ r_2) rfl (fun ht8 => ?_) (fun ht8 => ?_)
       ·
        replace hP := hP.2 ht8
        refine seq_reg (o_move (v := (.int .i64 ((k_5 : Nat) : Int))) rfl (o_assign (v := (.int .i64 ((k_5 : Nat) : Int))) rfl (wpList_nil (then_n (wp_ret (blk_r (then_r (then_r (blk_r (then_r (ret1 rfl (show ev _ _ _ = (.int .i64 ((k_5 : Nat) : Int)) from rfl) ?_)))))))))))
        exact ⟨((k_5 : Nat) : Int), σ10, rfl, hP, hS48, (Sub.trans hsub9 hsub10)⟩
       ·
        replace hP := hP.1 ht8
        refine wp_skip (blk_n (then_n (one_reg (o_add (r := ((k_5 + 1 : Nat) : Int)) rfl rfl (nw (by omega) (by omega) (by have := hlen4; omega)) (o_move (v := (.int .i64 ((k_5 + 1 : Nat) : Int))) rfl (wpList_nil (then_n ?_)))))))
        exact ⟨k_5 + 1, _, rfl, hP, σ10, _, (upd_in rfl (upd_in rfl (upd_in rfl (upd_in rfl rfl)))), hS48, (Sub.trans hsub9 hsub10)⟩
     ·
      replace hP := hP.2 ht5
      refine wp_exit (then_e (then_e (blk_hit (then_n (seq_reg (o_assign (v := (.int .i64 (-1 : Int))) rfl (wpList_nil (then_n (wp_ret (ret1 rfl (show ev _ _ _ = (.int .i64 (-1 : Int)) from rfl) ?_))))))))))
      exact ⟨(-1 : Int), σ9, rfl, hP, hS46, hsub9⟩
    ·
     rintro _ w24 ⟨r_1, σ8, rfl, hY5, hS49, hsub8⟩
     refine ⟨_, rfl, ?_⟩
     replace hP := hK4 r_1 hY5
     refine o_assign (v := (.int .i64 r_1)) rfl (wpList_nil (then_n (wp_seq (seq_reg (o_move (v := (.int .i64 r_1)) rfl (o_lss (r := (decide (r_1 < (0 : Int)))) rfl rfl rfl (wpList_nil (then_n ?_))))))))
     refine if_d (r_1 < (0 : Int)) rfl (fun ht9 => ?_) (fun ht9 => ?_)
     ·
      replace hP := hP.1 ht9
      refine seq_reg (o_assign (v := (.slice none 0 0)) rfl (o_assign (v := (.int .i64 (12 : Int))) rfl (wpList_nil (then_n (wp_ret (then_r (blk_r (then_r (blk_r (then_r (ret2 rfl (show ev _ _ _ = (.slice none 0 0) from rfl) (show ev _ _ _ = (.int .i64 (12 : Int)) from rfl) ?_)))))))))))
      have hS50 := hS49.addNil 9 1
      exact ⟨[], (12 : Int), (.slice none 0 0), rfl, hS50.done.forget, (by simp [Sml]), hS50.own0 (i := 0) rfl, hP⟩
     ·
      replace hP := hP.2 ht9
      refine wp_skip (then_n (seq_reg (o_move (v := v14) rfl (o_move (v := v13) rfl (o_move (v := (.int .i64 r_1)) rfl ?_)))))
      obtain ⟨j1_, hj1, hP⟩ := hP
      obtain ⟨x4_, hx4, hP⟩ := hP
      obtain ⟨g2, cp2, hv3⟩ := vec_posv (hS49.get (i := 0) rfl) (lt_of_getq hx4)
      refine o_iaddr_slice (k := j1_) (a' := ⟨g2, j1_ * 1, none⟩) hv3 rfl hj1 (lt_of_getq hx4) Try.underlying23 Try.sizeOf9 (by simp [addr_lit]) (o_load (v := (.string x4_)) rfl Try.isAgg9 (vec_cellv encTx_len (j := 0) hv3 (hS49.get (i := 0) rfl) hx4 rfl) (o_bslice (cs := [(.string x4_)]) (e := 9) hS49 (fun _ => by kernel_rfl) ?_))
      intro b8 w25 hS51
      obtain ⟨hsm4, hP⟩ := hP
      refine o_app (Ms := fun v16 => [blk b8 9 [(.string x4_)], vec v13 9 1 left_3.length ((left_3).flatMap encTx), vec v16 9 1 ((out_3 ++ [x4_]).length) ((out_3 ++ [x4_]).flatMap encTx), emap b6 (fun y : Bool => (Value.bool (y))) F_4, blk b7 53 [(.map (some b6))], blk b3 52 [(.map (some b2))], vec v6 9 1 ((cpt r1_).length) ((cpt r1_).flatMap encTx)]) (k' := (out_3 ++ [x4_]).length) (xs' := (out_3 ++ [x4_]).flatMap encTx) Try.underlying23 Try.type9 rfl rfl (bytes := 16) rfl rfl (Nat.succ_pos _) hS51 rfl (q := 2) rfl rfl rfl (blk_row (hS51.get (i := 0) rfl)) (ones rfl) hsm4 (by omega) (by first | rfl | exact List.length_append.symm | simp) (by simp [encTx]) (fun _ => rfl) ?_
      intro v16 w26 ho13 hS52
      have hS53 := hS52.drop 0 (ms' := [vec v13 9 1 left_3.length ((left_3).flatMap encTx), vec v16 9 1 ((out_3 ++ [x4_]).length) ((out_3 ++ [x4_]).flatMap encTx), emap b6 (fun y : Bool => (Value.bool (y))) F_4, blk b7 53 [(.map (some b6))], blk b3 52 [(.map (some b2))], vec v6 9 1 ((cpt r1_).length) ((cpt r1_).flatMap encTx)]) rfl
      refine o_assign (v := v16) rfl (wpList_nil (then_n (wp_seq (dr (fun z => St ⟨w, σ, []⟩ z σ8 [vec v13 9 1 left_3.length ((left_3).flatMap encTx), vec v16 9 1 ((out_3 ++ [x4_]).length) ((out_3 ++ [x4_]).flatMap encTx), blk b7 53 [(.map (some b6))], blk b3 52 [(.map (some b2))], vec v6 9 1 ((cpt r1_).length) ((cpt r1_).flatMap encTx)]) (by kernel_rfl) rfl ?_))))
      have hS54 := hS53.drew
      refine dt 0 1 (v := (.map (some b6))) (by kernel_rfl) rfl rfl (fun _ _ _ h => h) (hS54.sublist (.cons_cons _ (.cons_cons _ (.cons _ (List.Sublist.refl _))))) (fun _ hJ _ hK => o_load (v := (.map (some b6))) rfl Try.isAgg53 (hJ.cell (i := 2) rfl rfl) ⟨rfl, hK⟩) (dt 1 3 (v := v13) (by kernel_rfl) rfl rfl (fun _ _ _ h => h) (hS54.sublist (.cons_cons _ (.cons_cons _ (.cons _ (List.Sublist.refl _))))) (fun _ _ _ hK => o_move (v := v13) rfl ⟨rfl, hK⟩) (dt 2 7 (v := (.int .i64 r_1)) (by kernel_rfl) rfl rfl (fun _ _ _ h => h) (hS54.sublist (.cons_cons _ (.cons_cons _ (.cons _ (List.Sublist.refl _))))) (fun _ _ _ hK => o_move (v := (.int .i64 r_1)) rfl ⟨rfl, hK⟩) ?_))
      obtain ⟨j2_, hj2, hP⟩ := hP
      obtain ⟨x5_, hx5, hP⟩ := hP
      obtain ⟨g3, cp3, hv4⟩ := vec_posv (hS54.get (i := 0) rfl) (lt_of_getq hx5)
      refine dt 3 15 (v := (.pointer (some ⟨g3, j2_ * 1, none⟩))) (by kernel_rfl) rfl rfl (fun _ _ _ h => h) (hS54.sublist (.cons_cons _ (.cons_cons _ (.cons _ (List.Sublist.refl _))))) (fun _ _ _ hK => o_iaddr_slice (k := j2_) (a' := ⟨g3, j2_ * 1, none⟩) hv4 rfl hj2 (lt_of_getq hx5) Try.underlying23 Try.sizeOf9 (by simp [addr_lit]) ⟨rfl, hK⟩) (dt 4 31 (v := (.string x5_)) (by kernel_rfl) rfl rfl (fun _ _ _ h => h) (hS54.sublist (.cons_cons _ (.cons_cons _ (.cons _ (List.Sublist.refl _))))) (fun _ hJ _ hK => o_load (v := (.string x5_)) rfl Try.isAgg9 (vec_cellv encTx_len (j := 0) hv4 (hJ.get (i := 0) rfl) hx5 rfl) ⟨rfl, hK⟩) (d1 5 63 (by kernel_rfl) rfl (o_eput (y0 := true) (i := 2) (ms' := [vec v13 9 1 left_3.length ((left_3).flatMap encTx), vec v16 9 1 ((out_3 ++ [x4_]).length) ((out_3 ++ [x4_]).flatMap encTx), emap b6 (fun y : Bool => (Value.bool (y))) (put F_4 x5_ true), blk b7 53 [(.map (some b6))], blk b3 52 [(.map (some b2))], vec v6 9 1 ((cpt r1_).length) ((cpt r1_).flatMap encTx)]) hS54 rfl rfl rfl rfl Try.underlying53 Try.underlying9 rfl ?_)))
      intro w27 hS55
      refine wpList_nil ?_
      refine ⟨rfl, (hS55.sublist (.cons_cons _ (.cons_cons _ (.cons _ (List.Sublist.refl _))))), wpJ_weak (J' := fun z => St ⟨w, σ, []⟩ z σ8 [vec v13 9 1 left_3.length ((left_3).flatMap encTx), vec v16 9 1 ((out_3 ++ [x4_]).length) ((out_3 ++ [x4_]).flatMap encTx), emap b6 (fun y : Bool => (Value.bool (y))) (put F_4 x5_ true), blk b7 53 [(.map (some b6))], blk b3 52 [(.map (some b2))], vec v6 9 1 ((cpt r1_).length) ((cpt r1_).flatMap encTx)]) (fun w h => h.sublist (.cons_cons _ (.cons_cons _ (.cons _ (List.Sublist.refl _))))) _ _ _ _ ?_⟩
      refine dz (by kernel_rfl) (then_n (one_reg (o_move (v := v13) rfl (o_move (v := (.int .i64 r_1)) rfl (o_move (v := (.int .i64 r_1)) rfl ?_)))))
      obtain ⟨hi1, hP⟩ := hP
      refine o_add (r := (r_1 + (1 : Int))) rfl rfl (nwi rfl hi1) ?_
      obtain ⟨j3_, hj3, hP⟩ := hP
      obtain ⟨hd1, hP⟩ := hP
      obtain ⟨hd2, hP⟩ := hP
      obtain ⟨hsm5, hP⟩ := hP
      have hd3 : r_1 = ((j3_ : Nat) : Int) ∧ (r_1 + (1 : Int)) = ((j3_ + 1 : Nat) : Int) := ⟨by omega, by omega⟩
      refine o_call (args := [v13, (.int .i64 ((j3_ : Nat) : Int)), (.int .i64 ((j3_ + 1 : Nat) : Int))]) (by rw [← hd3.1, ← hd3.2]; rfl) Try.call31 (Calls.mono (delete_vec (i := j3_) (j := (j3_ + 1)) Try.slices_Delete_string hS55.view (hS55.get (i := 0) rfl) (fun b hb => hS55.off _ (List.mem_of_getElem? (i := 0) rfl) b hb) (by omega) hd2 hd1) ?_)
      rintro _ w28 ⟨v17, rfl, hf2, hg7, ho14⟩
      refine ⟨_, rfl, ?_⟩
      have ho15 := vec_one ho14
      have hS56 := hS55.growV (i := 0) (o' := vec v17 9 1 ((left_3.take j3_ ++ left_3.drop (j3_ + 1)).length) ((left_3.take j3_ ++ left_3.drop (j3_ + 1)).flatMap encTx)) rfl hg7 hf2 ho14 (ms' := [vec v17 9 1 ((left_3.take j3_ ++ left_3.drop (j3_ + 1)).length) ((left_3.take j3_ ++ left_3.drop (j3_ + 1)).flatMap encTx), vec v16 9 1 ((out_3 ++ [x4_]).length) ((out_3 ++ [x4_]).flatMap encTx), emap b6 (fun y : Bool => (Value.bool (y))) (put F_4 x5_ true), blk b7 53 [(.map (some b6))], blk b3 52 [(.map (some b2))], vec v6 9 1 ((cpt r1_).length) ((cpt r1_).flatMap encTx)]) rfl
      refine o_assign (v := v17) rfl (wpList_nil (blk_n (then_n ?_)))
      exact ⟨left_3.take j3_ ++ left_3.drop (j3_ + 1), out_3 ++ [x4_], put F_4 x5_ true, _, rfl, hP, v17, v16, σ8, _, (upd_in rfl (upd_in rfl (upd_in rfl (upd_in rfl rfl)))), hS56, (Sub.trans hsub7 hsub8), ho15, hsm5, ho13, hsm4⟩
   ·
    replace hP := hP.2 ht4
    refine wp_exit (then_e (then_e (blk_hit (then_n (seq_reg (o_move (v := v14) rfl (o_assign (v := v14) rfl (o_assign (v := (.int .i64 (0 : Int))) rfl (wpList_nil (then_n (wp_ret (ret2 rfl (show ev _ _ _ = v14 from rfl) (show ev _ _ _ = (.int .i64 (0 : Int)) from rfl) ?_))))))))))))
    exact ⟨out_3, (0 : Int), v14, rfl, hS45.done.forget, hl9, hS45.own0 (i := 1) rfl, hP⟩

end Go.Proofs.Ytegcjfidfinogaa
