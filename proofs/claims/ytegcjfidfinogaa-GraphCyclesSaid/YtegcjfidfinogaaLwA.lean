/- A call does what its plain meaning says, and leaves the memory that was there as it was: ref1_Has, ref1_Same, ref1_Add, ref9_ready, ref9_Order, ref9_Needs, ref9_Cyclic, slices_Clone___string_string_, slices_Index___string_string_, slices_Contains___string_string_. -/
import Derived.Test.YtegcjfidfinogaaRows
import Derived.Test.YtegcjfidfinogaaFlLift
import Derived.Test.YtegcjfidfinogaaPuA
import Derived.KernelRfl
import Derived.Test.YtegcjfidfinogaaFlMapL
import Derived.Test.YtegcjfidfinogaaSeq
import Derived.Test.YtegcjfidfinogaaShelf
namespace Go.Proofs.Ytegcjfidfinogaa
open Go Go.RowKit Go.Fl
set_option maxHeartbeats 2000000 in
theorem w_ref1_Has {σ : Hv} {w : World} (l_p : (List ByteArray)) (s_p : ByteArray) (v1 : Value) {K : Bool → Prop} (hV : View σ w) (hr1 : RSl 1 (REnc encTx) σ v1 l_p) (hP : P_ref1_Has l_p s_p K) :
    Calls Try.prog 13 #[v1, (.string s_p)] w (fun e w1 => ∃ (r1 : Bool), e = .returned (.bool (r1)) ∧ Grow [] σ w σ w1 ∧ K r1) := by
 unfold P_ref1_Has at hP
 obtain ⟨a1, cap1, rfl⟩ := hr1.shape
 refine enter Try.func13 rfl rfl rfl ?_
 have hS := St.start hV
 refine seq_reg (o_assign (v := (.bool false)) rfl (wpList_nil (then_n (wp_seq (seq_reg (o_assign (v := (.int .i64 (0 : Int))) rfl (wpList_nil (then_n (wp_block ?_)))))))))
 refine lp_loop1 (fun i_2 f z => ∃ (σ1 : Hv) (g : Fr), f = (upd (upd (upd g 0 (.slice a1 l_p.length cap1)) 1 (.string s_p)) 5 (.int .i64 ((i_2 : Nat) : Int))) ∧ St ⟨w, σ, []⟩ z σ1 [] ∧ Sub σ σ1) hP ⟨σ, _, (upd_in rfl (upd_in rfl (upd_in rfl rfl))), hS, (Sub.refl _)⟩ ?_
 clear hP
 rintro i_2 Y1 hP f w1 ⟨σ1, g, rfl, hS1, hsub1⟩
 refine wp_seq (seq_reg (o_move (v := (.int .i64 ((i_2 : Nat) : Int))) rfl (o_move (v := (.slice a1 l_p.length cap1)) rfl (o_len_slice rfl Try.underlying23 ?_))))
 have hlen1 := RSl.len63 hr1
 replace hP := hP hlen1
 refine o_lss (r := (decide (((i_2 : Nat) : Int) < ((l_p.length : Nat) : Int)))) rfl rfl rfl (wpList_nil (then_n ?_))
 refine if_d (((i_2 : Nat) : Int) < ((l_p.length : Nat) : Int)) rfl (fun ht1 => ?_) (fun ht1 => ?_)
 ·
  replace hP := hP.1 ht1
  refine wp_skip (then_n (wp_seq (wp_block (seq_reg (o_move (v := (.slice a1 l_p.length cap1)) rfl (o_move (v := (.int .i64 ((i_2 : Nat) : Int))) rfl ?_))))))
  obtain ⟨x1_, hx1⟩ := getq (l := l_p) (k := i_2) (by have := ht1; omega)
  replace hP := hP x1_ hx1
  obtain ⟨ad1, cs1, ha1, hl1, hr2, hR1, hlt1⟩ := RSl.at hr1 hx1
  cases hR1
  refine o_iaddr_slice (k := i_2) (a' := (ad1.add (i_2 * 1))) (congrArg (fun z => Value.slice z _ _) ha1) rfl rfl hlt1 Try.underlying23 Try.sizeOf9 rfl (o_load (v := (.string x1_)) rfl Try.isAgg9 (hr2.cell (View.of hsub1 hS1.view) 0 rfl rfl) (o_move (v := (.string s_p)) rfl (o_eqls (r := (decide (x1_ = s_p))) rfl rfl rfl (wpList_nil (then_n ?_)))))
  refine if_d (x1_ = s_p) rfl (fun ht2 => ?_) (fun ht2 => ?_)
  ·
   replace hP := hP.1 ht2
   refine seq_reg (o_assign (v := (.bool true)) rfl (wpList_nil (then_n (wp_ret (blk_r (then_r (then_r (blk_r (then_r (ret1 rfl (show ev _ _ _ = (.bool true) from rfl) ?_))))))))))
   exact ⟨true, rfl, hS1.done.forget, hP⟩
  ·
   replace hP := hP.2 ht2
   refine wp_skip (blk_n (then_n (one_reg (o_move (v := (.int .i64 ((i_2 : Nat) : Int))) rfl (o_add (r := ((i_2 + 1 : Nat) : Int)) rfl rfl (nw (by omega) (by omega) (by have := hlen1; omega)) (o_assign (v := (.int .i64 ((i_2 + 1 : Nat) : Int))) rfl (wpList_nil (then_n ?_))))))))
   exact ⟨i_2 + 1, _, rfl, hP, σ1, _, (upd_in rfl (upd_in rfl (upd_in rfl rfl))), hS1, hsub1⟩
 ·
  replace hP := hP.2 ht1
  refine wp_exit (then_e (then_e (blk_hit (then_n (seq_reg (o_assign (v := (.bool false)) rfl (wpList_nil (then_n (wp_ret (ret1 rfl (show ev _ _ _ = (.bool false) from rfl) ?_))))))))))
  exact ⟨false, rfl, hS1.done.forget, hP⟩

set_option maxHeartbeats 2000000 in
theorem w_ref1_Same {σ : Hv} {w : World} (a_p : (List ByteArray)) (b_p : (List ByteArray)) (v1 : Value) (v2 : Value) {K : Bool → Prop} (hV : View σ w) (hr1 : RSl 1 (REnc encTx) σ v1 a_p) (hr2 : RSl 1 (REnc encTx) σ v2 b_p) (hP : P_ref1_Same a_p b_p K) :
    Calls Try.prog 12 #[v1, v2] w (fun e w1 => ∃ (r1 : Bool), e = .returned (.bool (r1)) ∧ Grow [] σ w σ w1 ∧ K r1) := by
 unfold P_ref1_Same at hP
 obtain ⟨a1, cap1, rfl⟩ := hr1.shape
 obtain ⟨a2, cap2, rfl⟩ := hr2.shape
 refine enter Try.func12 rfl rfl rfl ?_
 have hS := St.start hV
 refine seq_reg (o_assign (v := (.bool false)) rfl (wpList_nil (then_n (wp_seq (seq_reg (o_move (v := (.slice a1 a_p.length cap1)) rfl (o_len_slice rfl Try.underlying23 ?_)))))))
 have hlen1 := RSl.len63 hr1
 replace hP := hP hlen1
 refine o_move (v := (.slice a2 b_p.length cap2)) rfl (o_len_slice rfl Try.underlying23 ?_)
 have hlen2 := RSl.len63 hr2
 replace hP := hP hlen2
 refine o_neq (r := (!decide (((a_p.length : Nat) : Int) = ((b_p.length : Nat) : Int)))) rfl rfl rfl (wpList_nil (then_n ?_))
 refine if_nd (((a_p.length : Nat) : Int) = ((b_p.length : Nat) : Int)) rfl (fun ht1 => ?_) (fun ht1 => ?_)
 ·
  replace hP := hP.2 ht1
  refine seq_reg (o_assign (v := (.bool false)) rfl (wpList_nil (then_n (wp_ret (then_r (ret1 rfl (show ev _ _ _ = (.bool false) from rfl) ?_))))))
  exact ⟨false, rfl, hS.done.forget, hP⟩
 ·
  replace hP := hP.1 ht1
  refine wp_skip (then_n (wp_seq (seq_reg (o_assign (v := (.int .i64 (0 : Int))) rfl (wpList_nil (then_n (wp_block ?_)))))))
  refine lp_loop1 (fun i_2 f z => ∃ (σ1 : Hv) (g : Fr), f = (upd (upd (upd g 0 (.slice a1 a_p.length cap1)) 1 (.slice a2 b_p.length cap2)) 5 (.int .i64 ((i_2 : Nat) : Int))) ∧ St ⟨w, σ, []⟩ z σ1 [] ∧ Sub σ σ1) hP ⟨σ, _, (upd_in rfl (upd_in rfl (upd_in rfl rfl))), hS, (Sub.refl _)⟩ ?_
  clear hP
  rintro i_2 Y1 hP f w1 ⟨σ1, g, rfl, hS1, hsub1⟩
  refine wp_seq (seq_reg (o_move (v := (.int .i64 ((i_2 : Nat) : Int))) rfl (o_move (v := (.slice a1 a_p.length cap1)) rfl (o_len_slice rfl Try.underlying23 (o_lss (r := (decide (((i_2 : Nat) : Int) < ((a_p.length : Nat) : Int)))) rfl rfl rfl (wpList_nil (then_n ?_)))))))
  refine if_d (((i_2 : Nat) : Int) < ((a_p.length : Nat) : Int)) rfl (fun ht2 => ?_) (fun ht2 => ?_)
  ·
   replace hP := hP.1 ht2
   refine wp_skip (then_n (wp_seq (wp_block (wp_seq (dr (fun z => St ⟨w, σ, []⟩ z σ1 []) (by kernel_rfl) rfl ?_)))))
   have hS2 := hS1.drew
   refine dt 0 1 (v := (.slice a1 a_p.length cap1)) (by kernel_rfl) rfl rfl (fun _ _ _ h => h) hS2 (fun _ _ _ hK => o_move (v := (.slice a1 a_p.length cap1)) rfl ⟨rfl, hK⟩) (dt 1 3 (v := (.int .i64 ((i_2 : Nat) : Int))) (by kernel_rfl) rfl rfl (fun _ _ _ h => h) hS2 (fun _ _ _ hK => o_move (v := (.int .i64 ((i_2 : Nat) : Int))) rfl ⟨rfl, hK⟩) ?_)
   obtain ⟨x1_, hx1⟩ := getq (l := a_p) (k := i_2) (by have := ht2; omega)
   replace hP := hP x1_ hx1
   obtain ⟨ad1, cs1, ha1, hl1, hr3, hR1, hlt1⟩ := RSl.at hr1 hx1
   cases hR1
   refine dt 2 7 (v := (.pointer (some (ad1.add (i_2 * 1))))) (by kernel_rfl) rfl rfl (fun _ _ _ h => h) hS2 (fun _ _ _ hK => o_iaddr_slice (k := i_2) (a' := (ad1.add (i_2 * 1))) (congrArg (fun z => Value.slice z _ _) ha1) rfl rfl hlt1 Try.underlying23 Try.sizeOf9 rfl ⟨rfl, hK⟩) (dt 3 15 (v := (.string x1_)) (by kernel_rfl) rfl rfl (fun _ _ _ h => h) hS2 (fun _ hJ _ hK => o_load (v := (.string x1_)) rfl Try.isAgg9 (hr3.cell (View.of hsub1 hJ.view) 0 rfl rfl) ⟨rfl, hK⟩) (dt 4 31 (v := (.slice a2 b_p.length cap2)) (by kernel_rfl) rfl rfl (fun _ _ _ h => h) hS2 (fun _ _ _ hK => o_move (v := (.slice a2 b_p.length cap2)) rfl ⟨rfl, hK⟩) (dt 5 63 (v := (.int .i64 ((i_2 : Nat) : Int))) (by kernel_rfl) rfl rfl (fun _ _ _ h => h) hS2 (fun _ _ _ hK => o_move (v := (.int .i64 ((i_2 : Nat) : Int))) rfl ⟨rfl, hK⟩) ?_)))
   obtain ⟨x2_, hx2, hP⟩ := hP
   obtain ⟨ad2, cs2, ha2, hl2, hr4, hR2, hlt2⟩ := RSl.at hr2 hx2
   cases hR2
   refine dt 6 127 (v := (.pointer (some (ad2.add (i_2 * 1))))) (by kernel_rfl) rfl rfl (fun _ _ _ h => h) hS2 (fun _ _ _ hK => o_iaddr_slice (k := i_2) (a' := (ad2.add (i_2 * 1))) (congrArg (fun z => Value.slice z _ _) ha2) rfl rfl hlt2 Try.underlying23 Try.sizeOf9 rfl ⟨rfl, hK⟩) (dt 7 255 (v := (.string x2_)) (by kernel_rfl) rfl rfl (fun _ _ _ h => h) hS2 (fun _ hJ _ hK => o_load (v := (.string x2_)) rfl Try.isAgg9 (hr4.cell (View.of hsub1 hJ.view) 0 rfl rfl) ⟨rfl, hK⟩) (dt 8 511 (v := (.bool (!decide (x1_ = x2_)))) (by kernel_rfl) rfl rfl (fun _ _ _ h => h) hS2 (fun _ _ _ hK => o_neqs (r := (!decide (x1_ = x2_))) rfl rfl rfl ⟨rfl, hK⟩) (dz (by kernel_rfl) (then_n ?_))))
   refine if_nd (x1_ = x2_) rfl (fun ht3 => ?_) (fun ht3 => ?_)
   ·
    replace hP := hP.2 ht3
    refine seq_reg (o_assign (v := (.bool false)) rfl (wpList_nil (then_n (wp_ret (blk_r (then_r (then_r (blk_r (then_r (ret1 rfl (show ev _ _ _ = (.bool false) from rfl) ?_))))))))))
    exact ⟨false, rfl, hS2.done.forget, hP⟩
   ·
    replace hP := hP.1 ht3
    refine wp_skip (blk_n (then_n (one_reg (o_move (v := (.int .i64 ((i_2 : Nat) : Int))) rfl (o_add (r := ((i_2 + 1 : Nat) : Int)) rfl rfl (nw (by omega) (by omega) (by have := hlen1; omega)) (o_assign (v := (.int .i64 ((i_2 + 1 : Nat) : Int))) rfl (wpList_nil (then_n ?_))))))))
    exact ⟨i_2 + 1, _, rfl, hP, σ1, _, (upd_in rfl (upd_in rfl (upd_in rfl rfl))), hS2, hsub1⟩
  ·
   replace hP := hP.2 ht2
   refine wp_exit (then_e (then_e (blk_hit (then_n (seq_reg (o_assign (v := (.bool true)) rfl (wpList_nil (then_n (wp_ret (ret1 rfl (show ev _ _ _ = (.bool true) from rfl) ?_))))))))))
   exact ⟨true, rfl, hS1.done.forget, hP⟩

set_option maxHeartbeats 2000000 in
theorem w_ref1_Add {σ : Hv} {w : World} (l_p : (List ByteArray)) (s_p : ByteArray) (v1 : Value) {K : (List ByteArray) → Prop} (hV : View σ w) (hr1 : RSl 1 (REnc encTx) σ v1 l_p) (hP : P_ref1_Add l_p s_p K) :
    Calls Try.prog 36 #[v1, (.string s_p)] w (fun e w1 => ∃ (r1 : (List ByteArray)) (v2 : Value) (σ1 : Hv), e = .returned v2 ∧ Grow [] σ w σ1 w1 ∧ RSl 1 (REnc encTx) σ1 v2 r1 ∧ K r1) := by
 unfold P_ref1_Add at hP
 obtain ⟨a1, cap1, rfl⟩ := hr1.shape
 refine enter Try.func36 rfl rfl rfl ?_
 have hS := St.start hV
 refine seq_reg (o_assign (v := (.slice none 0 0)) rfl (wpList_nil (then_n (seq_reg (o_assign (v := (.int .i64 (0 : Int))) rfl (wpList_nil (then_n ?_)))))))
 obtain ⟨Y1, hK1, hP⟩ := hP
 refine cut (fun f z => ∃ (i_1 : Nat) (σ1 : Hv) (g : Fr), Y1 i_1 ∧ f = (upd (upd (upd g 0 (.slice a1 l_p.length cap1)) 1 (.string s_p)) 5 (.int .i64 ((i_1 : Nat) : Int))) ∧ St ⟨w, σ, []⟩ z σ1 [] ∧ Sub σ σ1) ?_ ?_
 ·
  refine wp_block ?_
  refine lp_loop1 (fun i_3 f z => ∃ (σ2 : Hv) (g : Fr), f = (upd (upd (upd g 0 (.slice a1 l_p.length cap1)) 1 (.string s_p)) 5 (.int .i64 ((i_3 : Nat) : Int))) ∧ St ⟨w, σ, []⟩ z σ2 [] ∧ Sub σ σ2) hP ⟨σ, _, (upd_in rfl (upd_in rfl (upd_in rfl rfl))), hS, (Sub.refl _)⟩ ?_
  clear hP
  rintro i_3 Y2 hP f w1 ⟨σ2, g, rfl, hS1, hsub2⟩
  refine wp_seq (seq_reg (o_move (v := (.int .i64 ((i_3 : Nat) : Int))) rfl (o_move (v := (.slice a1 l_p.length cap1)) rfl (o_len_slice rfl Try.underlying23 ?_))))
  have hlen1 := RSl.len63 hr1
  replace hP := hP hlen1
  refine o_lss (r := (decide (((i_3 : Nat) : Int) < ((l_p.length : Nat) : Int)))) rfl rfl rfl ?_
  by_cases hb1 : ((i_3 : Nat) : Int) < ((l_p.length : Nat) : Int)
  ·
   replace hP := hP.1 hb1
   refine o_move (v := (.bool true)) (congrArg Value.bool (decide_eq_true hb1)) (o_on rfl rfl (o_move (v := (.slice a1 l_p.length cap1)) rfl (o_on rfl rfl (o_move (v := (.int .i64 ((i_3 : Nat) : Int))) rfl (o_on rfl rfl ?_)))))
   obtain ⟨x1_, hx1⟩ := getq (l := l_p) (k := i_3) (by have := hb1; omega)
   replace hP := hP x1_ hx1
   obtain ⟨ad1, cs1, ha1, hl1, hr3, hR1, hlt1⟩ := RSl.at hr1 hx1
   cases hR1
   refine o_iaddr_slice (k := i_3) (a' := (ad1.add (i_3 * 1))) (congrArg (fun z => Value.slice z _ _) ha1) rfl rfl hlt1 Try.underlying23 Try.sizeOf9 rfl (o_on rfl rfl (o_load (v := (.string x1_)) rfl Try.isAgg9 (hr3.cell (View.of hsub2 hS1.view) 0 rfl rfl) (o_on rfl rfl (o_move (v := (.string s_p)) rfl (o_on rfl rfl (o_lsss (r := (decide (Lk.blt x1_ s_p))) rfl rfl rfl (o_pick_t (v := (.bool (decide (Lk.blt x1_ s_p)))) rfl rfl (wpList_nil (then_n ?_)))))))))
   refine if_d (Lk.blt x1_ s_p) rfl (fun ht1 => ?_) (fun ht1 => ?_)
   ·
    replace hP := hP.1 ht1
    refine wp_skip (then_n (wp_block (one_reg (o_move (v := (.int .i64 ((i_3 : Nat) : Int))) rfl (o_add (r := ((i_3 + 1 : Nat) : Int)) rfl rfl (nw (by omega) (by omega) (by have := hlen1; omega)) (o_assign (v := (.int .i64 ((i_3 + 1 : Nat) : Int))) rfl (wpList_nil (blk_n (then_n ?_)))))))))
    exact ⟨i_3 + 1, _, rfl, hP, σ2, _, (upd_in rfl (upd_in rfl (upd_in rfl rfl))), hS1, hsub2⟩
   ·
    replace hP := hP.2 ht1
    refine wp_exit (then_e (then_e (blk_hit (then_n ?_))))
    exact ⟨_, rfl, i_3, σ2, _, hP, (upd_in rfl (upd_in rfl (upd_in rfl rfl))), hS1, hsub2⟩
  ·
   replace hP := hP.2 hb1
   refine o_move (v := (.bool false)) (congrArg Value.bool (decide_eq_false hb1)) (o_off rfl rfl (o_off rfl rfl (o_off rfl rfl (o_off rfl rfl (o_off rfl rfl (o_off rfl rfl (o_pick_f (v := (.bool false)) rfl rfl (wpList_nil (then_n (if_f rfl (wp_exit (then_e (then_e (blk_hit (then_n ?_)))))))))))))))
   exact ⟨_, rfl, i_3, σ2, _, hP, (upd_in rfl (upd_in rfl (upd_in rfl rfl))), hS1, hsub2⟩
 ·
  rintro f w2 ⟨i_1, σ1, g, hY1, rfl, hS2, hsub1⟩
  replace hP := hK1 i_1 hY1
  obtain ⟨Y3, hK2, hP⟩ := hP
  refine cut (fun f z => ∃ (σ3 : Hv) (g : Fr), Y3 ∧ f = (upd (upd (upd g 0 (.slice a1 l_p.length cap1)) 1 (.string s_p)) 5 (.int .i64 ((i_1 : Nat) : Int))) ∧ St ⟨w, σ, []⟩ z σ3 [] ∧ Sub σ1 σ3) ?_ ?_
  ·
   refine seq_reg (o_move (v := (.int .i64 ((i_1 : Nat) : Int))) rfl (o_move (v := (.slice a1 l_p.length cap1)) rfl (o_len_slice rfl Try.underlying23 ?_)))
   have hlen2 := RSl.len63 hr1
   replace hP := hP hlen2
   refine o_lss (r := (decide (((i_1 : Nat) : Int) < ((l_p.length : Nat) : Int)))) rfl rfl rfl ?_
   by_cases hb2 : ((i_1 : Nat) : Int) < ((l_p.length : Nat) : Int)
   ·
    replace hP := hP.1 hb2
    refine o_move (v := (.bool true)) (congrArg Value.bool (decide_eq_true hb2)) (o_on rfl rfl (o_move (v := (.slice a1 l_p.length cap1)) rfl (o_on rfl rfl (o_move (v := (.int .i64 ((i_1 : Nat) : Int))) rfl (o_on rfl rfl ?_)))))
    obtain ⟨x2_, hx2⟩ := getq (l := l_p) (k := i_1) (by have := hb2; omega)
    replace hP := hP x2_ hx2
    obtain ⟨ad2, cs2, ha2, hl2, hr4, hR2, hlt2⟩ := RSl.at hr1 hx2
    cases hR2
    refine o_iaddr_slice (k := i_1) (a' := (ad2.add (i_1 * 1))) (congrArg (fun z => Value.slice z _ _) ha2) rfl rfl hlt2 Try.underlying23 Try.sizeOf9 rfl (o_on rfl rfl (o_load (v := (.string x2_)) rfl Try.isAgg9 (hr4.cell (View.of hsub1 hS2.view) 0 rfl rfl) (o_on rfl rfl (o_move (v := (.string s_p)) rfl (o_on rfl rfl (o_eqls (r := (decide (x2_ = s_p))) rfl rfl rfl (o_pick_t (v := (.bool (decide (x2_ = s_p)))) rfl rfl (wpList_nil (then_n ?_)))))))))
    refine if_d (x2_ = s_p) rfl (fun ht2 => ?_) (fun ht2 => ?_)
    ·
     replace hP := hP.1 ht2
     refine seq_reg (o_move (v := (.slice a1 l_p.length cap1)) rfl (o_assign (v := (.slice a1 l_p.length cap1)) rfl (wpList_nil (then_n (wp_ret (then_r (ret1 rfl (show ev _ _ _ = (.slice a1 l_p.length cap1) from rfl) ?_)))))))
     exact ⟨l_p, (.slice a1 l_p.length cap1), σ1, rfl, hS2.done, (RSl.menc hsub1 hr1), hP⟩
    ·
     replace hP := hP.2 ht2
     refine wp_skip (then_n ?_)
     exact ⟨_, rfl, σ1, _, hP, (upd_in rfl (upd_in rfl (upd_in rfl rfl))), hS2, (Sub.refl _)⟩
   ·
    replace hP := hP.2 hb2
    refine o_move (v := (.bool false)) (congrArg Value.bool (decide_eq_false hb2)) (o_off rfl rfl (o_off rfl rfl (o_off rfl rfl (o_off rfl rfl (o_off rfl rfl (o_off rfl rfl (o_pick_f (v := (.bool false)) rfl rfl (wpList_nil (then_n (if_f rfl (wp_skip (then_n ?_))))))))))))
    exact ⟨_, rfl, σ1, _, hP, (upd_in rfl (upd_in rfl (upd_in rfl rfl))), hS2, (Sub.refl _)⟩
  ·
   rintro f w3 ⟨σ3, g, hY2, rfl, hS3, hsub3⟩
   replace hP := hK2 hY2
   refine seq_reg (o_move (v := (.slice a1 l_p.length cap1)) rfl (o_move (v := (.int .i64 ((i_1 : Nat) : Int))) rfl ?_))
   obtain ⟨hle1, hP⟩ := hP
   have hcl1 := RSl.capLen hr1
   refine o_prefix (r := i_1) rfl Try.underlying23 Try.sizeOf9 rfl (by omega) ?_
   have hn1 : (l_p.take i_1).length = i_1 := by simp only [List.length_take]; omega
   have hr5 := RSl.take hr1 i_1 hle1
   have hS4 := hS3.addNil 9 1
   obtain ⟨hsm1, hP⟩ := hP
   refine o_appR (enc := encTx) (l := (l_p.take i_1)) (Ms := fun v3 => [vec v3 9 1 ((l_p.take i_1).length) (((l_p.take i_1)).flatMap encTx)]) (k' := (l_p.take i_1).length) (xs' := ((l_p.take i_1)).flatMap encTx) Try.underlying23 Try.type9 rfl rfl (bytes := 16) rfl rfl (Nat.succ_pos _) hS4 rfl (q := 0) rfl rfl hr5 (View.of (Sub.trans hsub1 hsub3) hS4.view) encTx_len encTx_one hsm1 (by omega) (by first | rfl | exact List.length_append.symm | simp) (List.nil_append _) (fun _ => rfl) ?_
   intro v3 w4 ho1 hS5
   refine o_assign (v := v3) rfl (wpList_nil (then_n (wp_seq (dr (fun z => St ⟨w, σ, []⟩ z σ3 []) (by kernel_rfl) rfl ?_))))
   have hS6 := hS5.drew
   refine dt 0 1 (v := v3) (by kernel_rfl) rfl rfl (fun _ _ _ h => h) (hS6.sublist (List.nil_sublist _)) (fun _ _ _ hK => o_move (v := v3) rfl ⟨rfl, hK⟩) (dt 1 3 (v := (.string s_p)) (by kernel_rfl) rfl rfl (fun _ _ _ h => h) (hS6.sublist (List.nil_sublist _)) (fun _ _ _ hK => o_move (v := (.string s_p)) rfl ⟨rfl, hK⟩) (dt 4 19 (v := (.slice a1 l_p.length cap1)) (by kernel_rfl) rfl rfl (fun _ _ _ h => h) (hS6.sublist (List.nil_sublist _)) (fun _ _ _ hK => o_move (v := (.slice a1 l_p.length cap1)) rfl ⟨rfl, hK⟩) (dt 5 51 (v := (.int .i64 ((i_1 : Nat) : Int))) (by kernel_rfl) rfl rfl (fun _ _ _ h => h) (hS6.sublist (List.nil_sublist _)) (fun _ _ _ hK => o_move (v := (.int .i64 ((i_1 : Nat) : Int))) rfl ⟨rfl, hK⟩) ?_)))
   obtain ⟨hle2, hP⟩ := hP
   have hcl2 := RSl.capLen hr1
   have hr6 := RSl.drop hr1 i_1 hle2
   refine dt 6 115 (v := (.slice (if cap1 = i_1 then a1 else a1.map (·.add (i_1 * 1))) (l_p.length - i_1) (cap1 - i_1))) (by kernel_rfl) rfl rfl (fun _ _ _ h => h) (hS6.sublist (List.nil_sublist _)) (fun _ _ _ hK => o_slice (l := i_1) (r := l_p.length) (v := (.slice (if cap1 = i_1 then a1 else a1.map (·.add (i_1 * 1))) (l_p.length - i_1) (cap1 - i_1))) rfl Try.underlying23 Try.sizeOf9 (.inr ⟨_, rfl, rfl⟩) (.inl ⟨rfl, rfl⟩) (by omega) (by omega) rfl ⟨rfl, hK⟩) (d1 2 119 (by kernel_rfl) rfl (o_bslice (cs := [(.string s_p)]) (e := 9) hS6 (fun _ => by kernel_rfl) ?_))
   intro b1 w5 hS7
   refine wpList_nil ?_
   refine ⟨rfl, (hS7.sublist (List.nil_sublist _)), ?_⟩
   refine d1 3 127 (by kernel_rfl) rfl ?_
   obtain ⟨hsm2, hP⟩ := hP
   refine o_app (Ms := fun v4 => [blk b1 9 [(.string s_p)], vec v4 9 1 (((l_p.take i_1) ++ [s_p]).length) (((l_p.take i_1) ++ [s_p]).flatMap encTx)]) (k' := ((l_p.take i_1) ++ [s_p]).length) (xs' := ((l_p.take i_1) ++ [s_p]).flatMap encTx) Try.underlying23 Try.type9 rfl rfl (bytes := 16) rfl rfl (Nat.succ_pos _) hS7 rfl (q := 1) rfl rfl rfl (blk_row (hS7.get (i := 0) rfl)) (ones rfl) hsm2 (by omega) (by first | rfl | exact List.length_append.symm | simp) (by simp [encTx]) (fun _ => rfl) ?_
   intro v4 w6 ho2 hS8
   have hS9 := hS8.drop 0 (ms' := [vec v4 9 1 (((l_p.take i_1) ++ [s_p]).length) (((l_p.take i_1) ++ [s_p]).flatMap encTx)]) rfl
   refine wpList_nil ?_
   refine ⟨rfl, (hS9.sublist (List.nil_sublist _)), ?_⟩
   refine d1 7 255 (by kernel_rfl) rfl ?_
   obtain ⟨hsm3, hP⟩ := hP
   refine o_appR (enc := encTx) (l := (l_p.drop i_1)) (Ms := fun v5 => [vec v5 9 1 (((l_p.take i_1) ++ [s_p] ++ (l_p.drop i_1)).length) (((l_p.take i_1) ++ [s_p] ++ (l_p.drop i_1)).flatMap encTx)]) (k' := ((l_p.take i_1) ++ [s_p] ++ (l_p.drop i_1)).length) (xs' := ((l_p.take i_1) ++ [s_p] ++ (l_p.drop i_1)).flatMap encTx) Try.underlying23 Try.type9 rfl rfl (bytes := 16) rfl rfl (Nat.succ_pos _) hS9 rfl (q := 0) rfl rfl hr6 (View.of (Sub.trans hsub1 hsub3) hS9.view) encTx_len encTx_one hsm3 (by omega) (by first | rfl | exact List.length_append.symm | simp) (List.flatMap_append).symm (fun _ => rfl) ?_
   intro v5 w7 ho3 hS10
   refine wpList_nil ?_
   refine ⟨rfl, (hS10.sublist (List.nil_sublist _)), wpJ_weak (J' := fun z => St ⟨w, σ, []⟩ z σ3 [vec v5 9 1 (((l_p.take i_1) ++ [s_p] ++ (l_p.drop i_1)).length) (((l_p.take i_1) ++ [s_p] ++ (l_p.drop i_1)).flatMap encTx)]) (fun w h => h.sublist (List.nil_sublist _)) _ _ _ _ ?_⟩
   refine dt 8 511 (v := v5) (by kernel_rfl) rfl rfl (fun _ _ _ h => h) hS10 (fun _ _ _ hK => o_assign (v := v5) rfl ⟨rfl, hK⟩) (dz (by kernel_rfl) (then_n (wp_ret (ret1 rfl (show ev _ _ _ = v5 from rfl) ?_))))
   obtain ⟨σ4, hS11, hsub4, hr7⟩ := hS10.peek (i := 0) rfl (notin0 _) encTx_len hsm3
   obtain ⟨a2, cap2, rfl⟩ := hr7.shape
   exact ⟨(l_p.take i_1) ++ [s_p] ++ (l_p.drop i_1), (.slice a2 ((l_p.take i_1) ++ [s_p] ++ (l_p.drop i_1)).length cap2), σ4, rfl, hS11.done, hr7, hP⟩

set_option maxHeartbeats 2000000 in
theorem w_ref9_ready {σ : Hv} {w : World} (order_p : (List ByteArray)) (edges_p : (List (ByteArray × ByteArray))) (node_p : ByteArray) (v1 : Value) (v2 : Value) {K : Bool → Prop} (hV : View σ w) (hr1 : RSl 1 (REnc encTx) σ v1 order_p) (hr2 : RSl 2 (REnc encEd) σ v2 edges_p) (hP : P_ref9_ready order_p edges_p node_p K) :
    Calls Try.prog 32 #[v1, v2, (.string node_p)] w (fun e w1 => ∃ (r1 : Bool), e = .returned (.bool (r1)) ∧ Grow [] σ w σ w1 ∧ K r1) := by
 unfold P_ref9_ready at hP
 obtain ⟨a1, cap1, rfl⟩ := hr1.shape
 obtain ⟨a2, cap2, rfl⟩ := hr2.shape
 refine enter Try.func32 rfl rfl rfl ?_
 have hS := St.start hV
 refine seq_reg (o_assign (v := (.bool false)) rfl (wpList_nil (then_n (wp_seq (seq_reg (o_assign (v := (.int .i64 (0 : Int))) rfl (wpList_nil (then_n (wp_block ?_)))))))))
 refine lp_loop1 (fun i_2 f z => ∃ (σ1 : Hv) (g : Fr), f = (upd (upd (upd (upd g 0 (.slice a1 order_p.length cap1)) 1 (.slice a2 edges_p.length cap2)) 2 (.string node_p)) 7 (.int .i64 ((i_2 : Nat) : Int))) ∧ St ⟨w, σ, []⟩ z σ1 [] ∧ Sub σ σ1) hP ⟨σ, _, (upd_in rfl (upd_in rfl (upd_in rfl (upd_in rfl rfl)))), hS, (Sub.refl _)⟩ ?_
 clear hP
 rintro i_2 Y1 hP f w1 ⟨σ1, g, rfl, hS1, hsub1⟩
 refine wp_seq (seq_reg (o_move (v := (.int .i64 ((i_2 : Nat) : Int))) rfl (o_move (v := (.slice a2 edges_p.length cap2)) rfl (o_len_slice rfl Try.underlying24 ?_))))
 have hlen1 := RSl.len63 hr2
 replace hP := hP hlen1
 refine o_lss (r := (decide (((i_2 : Nat) : Int) < ((edges_p.length : Nat) : Int)))) rfl rfl rfl (wpList_nil (then_n ?_))
 refine if_d (((i_2 : Nat) : Int) < ((edges_p.length : Nat) : Int)) rfl (fun ht1 => ?_) (fun ht1 => ?_)
 ·
  replace hP := hP.1 ht1
  refine wp_skip (then_n (wp_seq (wp_block (seq_reg (o_move (v := (.slice a2 edges_p.length cap2)) rfl (o_move (v := (.int .i64 ((i_2 : Nat) : Int))) rfl ?_))))))
  obtain ⟨x1_, hx1⟩ := getq (l := edges_p) (k := i_2) (by have := ht1; omega)
  replace hP := hP x1_ hx1
  obtain ⟨ad1, cs1, ha1, hl1, hr3, hR1, hlt1⟩ := RSl.at hr2 hx1
  cases hR1
  refine o_iaddr_slice (k := i_2) (a' := (ad1.add (i_2 * 2))) (congrArg (fun z => Value.slice z _ _) ha1) rfl rfl hlt1 Try.underlying24 Try.sizeOf40 rfl (o_faddr (a' := (((ad1.add (i_2 * 2))).add 0)) rfl Try.underlying40 rfl Try.sizeOf9 rfl (o_load (v := (.string x1_.1)) rfl Try.isAgg9 (hr3.cell (View.of hsub1 hS1.view) 0 rfl rfl) (o_move (v := (.string node_p)) rfl (o_eqls (r := (decide (x1_.1 = node_p))) rfl rfl rfl ?_))))
  by_cases hb1 : x1_.1 = node_p
  ·
   replace hP := hP.1 hb1
   refine o_move (v := (.bool true)) (congrArg Value.bool (decide_eq_true hb1)) (o_on rfl rfl (o_move (v := (.slice a1 order_p.length cap1)) rfl (o_on rfl rfl (o_move (v := (.slice a2 edges_p.length cap2)) rfl (o_on rfl rfl (o_move (v := (.int .i64 ((i_2 : Nat) : Int))) rfl (o_on rfl rfl (o_iaddr_slice (k := i_2) (a' := (ad1.add (i_2 * 2))) (congrArg (fun z => Value.slice z _ _) ha1) rfl rfl hlt1 Try.underlying24 Try.sizeOf40 rfl (o_on rfl rfl (o_faddr (a' := (((ad1.add (i_2 * 2))).add 1)) rfl Try.underlying40 rfl Try.sizeOf9 rfl (o_on rfl rfl (o_load (v := (.string x1_.2)) rfl Try.isAgg9 (hr3.cell (View.of hsub1 hS1.view) 1 rfl rfl) (o_on rfl rfl ?_)))))))))))))
   obtain ⟨Y2, hK1, hc1⟩ := hP
   refine o_call (args := [(.slice a1 order_p.length cap1), (.string x1_.2)]) rfl Try.call13 (Calls.mono (w_ref1_Has order_p x1_.2 (.slice a1 order_p.length cap1) hS1.view (RSl.menc hsub1 hr1) hc1) ?_)
   rintro _ w2 ⟨r1_, rfl, hg1, hY1⟩
   refine ⟨_, rfl, ?_⟩
   have hS2 := hS1.grow hg1
   replace hP := hK1 r1_ hY1
   refine o_on rfl rfl (o_not (r := (!r1_)) rfl rfl (o_pick_t (v := (.bool (!r1_))) rfl rfl (wpList_nil (then_n ?_))))
   refine if_nb rfl (fun ht2 => ?_) (fun ht2 => ?_)
   ·
    replace hP := hP.2 (by first | (rw [ht2]; exact Bool.false_ne_true) | simp [ht2])
    refine seq_reg (o_assign (v := (.bool false)) rfl (wpList_nil (then_n (wp_ret (blk_r (then_r (then_r (blk_r (then_r (ret1 rfl (show ev _ _ _ = (.bool false) from rfl) ?_))))))))))
    exact ⟨false, rfl, hS2.done.forget, hP⟩
   ·
    replace hP := hP.1 ht2
    refine wp_skip (blk_n (then_n (one_reg (o_move (v := (.int .i64 ((i_2 : Nat) : Int))) rfl (o_add (r := ((i_2 + 1 : Nat) : Int)) rfl rfl (nw (by omega) (by omega) (by have := hlen1; omega)) (o_assign (v := (.int .i64 ((i_2 + 1 : Nat) : Int))) rfl (wpList_nil (then_n ?_))))))))
    exact ⟨i_2 + 1, _, rfl, hP, σ1, _, (upd_in rfl (upd_in rfl (upd_in rfl (upd_in rfl rfl)))), hS2, hsub1⟩
  ·
   replace hP := hP.2 hb1
   refine o_move (v := (.bool false)) (congrArg Value.bool (decide_eq_false hb1)) (o_off rfl rfl (o_off rfl rfl (o_off rfl rfl (o_off rfl rfl (o_off rfl rfl (o_off rfl rfl (o_off rfl rfl (o_off rfl rfl (o_pick_f (v := (.bool false)) rfl rfl (wpList_nil (then_n (if_f rfl (wp_skip (blk_n (then_n (one_reg (o_move (v := (.int .i64 ((i_2 : Nat) : Int))) rfl (o_add (r := ((i_2 + 1 : Nat) : Int)) rfl rfl (nw (by omega) (by omega) (by have := hlen1; omega)) (o_assign (v := (.int .i64 ((i_2 + 1 : Nat) : Int))) rfl (wpList_nil (then_n ?_)))))))))))))))))))))
   exact ⟨i_2 + 1, _, rfl, hP, σ1, _, (upd_in rfl (upd_in rfl (upd_in rfl (upd_in rfl rfl)))), hS1, hsub1⟩
 ·
  replace hP := hP.2 ht1
  refine wp_exit (then_e (then_e (blk_hit (then_n (seq_reg (o_move (v := (.slice a1 order_p.length cap1)) rfl (o_move (v := (.string node_p)) rfl ?_)))))))
  obtain ⟨Y3, hK2, hc2⟩ := hP
  refine o_call (args := [(.slice a1 order_p.length cap1), (.string node_p)]) rfl Try.call13 (Calls.mono (w_ref1_Has order_p node_p (.slice a1 order_p.length cap1) hS1.view (RSl.menc hsub1 hr1) hc2) ?_)
  rintro _ w3 ⟨r2_, rfl, hg2, hY2⟩
  refine ⟨_, rfl, ?_⟩
  have hS3 := hS1.grow hg2
  replace hP := hK2 r2_ hY2
  refine o_not (r := (!r2_)) rfl rfl (o_assign (v := (.bool (!r2_))) rfl (wpList_nil (then_n (wp_ret (ret1 rfl (show ev _ _ _ = (.bool (!r2_)) from rfl) ?_)))))
  exact ⟨(!r2_), rfl, hS3.done.forget, hP⟩

set_option maxHeartbeats 2000000 in
theorem w_ref9_Order {σ : Hv} {w : World} (nodes_p : (List ByteArray)) (edges_p : (List (ByteArray × ByteArray))) (v1 : Value) (v2 : Value) {K : (List ByteArray) → Int → Prop} (hV : View σ w) (hr1 : RSl 1 (REnc encTx) σ v1 nodes_p) (hr2 : RSl 2 (REnc encEd) σ v2 edges_p) (hP : P_ref9_Order nodes_p edges_p K) :
    Calls Try.prog 11 #[v1, v2] w (fun e w1 => ∃ (r1 : (List ByteArray)) (r2 : Int) (v3 : Value), e = .returned (.tuple #[v3, (.int .i64 r2)]) ∧ Grow [] σ w σ w1 ∧ Sml r1.length ∧ ((vec v3 9 1 r1.length ((r1).flatMap encTx)).ok w1 ∧ ∀ k, (vec v3 9 1 r1.length ((r1).flatMap encTx)).foot = some k → w.heap.size ≤ k ∧ σ k = none) ∧ K r1 r2) := by
 unfold P_ref9_Order at hP
 obtain ⟨a1, cap1, rfl⟩ := hr1.shape
 obtain ⟨a2, cap2, rfl⟩ := hr2.shape
 refine enter Try.func11 rfl rfl rfl ?_
 have hS := St.start hV
 refine seq_reg (o_assign (v := (.slice none 0 0)) rfl (o_assign (v := (.int .i64 (0 : Int))) rfl (wpList_nil (then_n (wp_seq (seq_reg (o_assign (v := (.int .i64 (0 : Int))) rfl (wpList_nil (then_n (wp_block ?_))))))))))
 refine lp_loop1 (fun i_2 f z => ∃ (σ1 : Hv) (g : Fr), f = (upd (upd (upd g 0 (.slice a1 nodes_p.length cap1)) 1 (.slice a2 edges_p.length cap2)) 6 (.int .i64 ((i_2 : Nat) : Int))) ∧ St ⟨w, σ, []⟩ z σ1 [] ∧ Sub σ σ1) hP ⟨σ, _, (upd_in rfl (upd_in rfl (upd_in rfl rfl))), hS, (Sub.refl _)⟩ ?_
 clear hP
 rintro i_2 Y1 hP f w1 ⟨σ1, g, rfl, hS1, hsub1⟩
 refine wp_seq (seq_reg (o_move (v := (.int .i64 ((i_2 : Nat) : Int))) rfl (o_move (v := (.slice a1 nodes_p.length cap1)) rfl (o_len_slice rfl Try.underlying23 ?_))))
 have hlen1 := RSl.len63 hr1
 replace hP := hP hlen1
 refine o_lss (r := (decide (((i_2 : Nat) : Int) < ((nodes_p.length : Nat) : Int)))) rfl rfl rfl (wpList_nil (then_n ?_))
 refine if_d (((i_2 : Nat) : Int) < ((nodes_p.length : Nat) : Int)) rfl (fun ht1 => ?_) (fun ht1 => ?_)
 ·
  replace hP := hP.1 ht1
  refine wp_skip (then_n (wp_seq (wp_block (wp_seq (dr (fun z => St ⟨w, σ, []⟩ z σ1 []) (by kernel_rfl) rfl ?_)))))
  have hS2 := hS1.drew
  refine dt 0 1 (v := (.slice a1 nodes_p.length cap1)) (by kernel_rfl) rfl rfl (fun _ _ _ h => h) hS2 (fun _ _ _ hK => o_move (v := (.slice a1 nodes_p.length cap1)) rfl ⟨rfl, hK⟩) (dt 1 3 (v := (.int .i64 ((i_2 : Nat) : Int))) (by kernel_rfl) rfl rfl (fun _ _ _ h => h) hS2 (fun _ _ _ hK => o_move (v := (.int .i64 ((i_2 : Nat) : Int))) rfl ⟨rfl, hK⟩) ?_)
  obtain ⟨hle1, hP⟩ := hP
  have hcl1 := RSl.capLen hr1
  have hn1 : (nodes_p.take i_2).length = i_2 := by simp only [List.length_take]; omega
  have hr4 := RSl.take hr1 i_2 hle1
  refine dt 2 7 (v := (.slice a1 i_2 cap1)) (by kernel_rfl) rfl rfl (fun _ _ _ h => h) hS2 (fun _ _ _ hK => o_prefix (r := i_2) rfl Try.underlying23 Try.sizeOf9 rfl (by omega) ⟨rfl, hK⟩) (dt 3 15 (v := (.slice a1 nodes_p.length cap1)) (by kernel_rfl) rfl rfl (fun _ _ _ h => h) hS2 (fun _ _ _ hK => o_move (v := (.slice a1 nodes_p.length cap1)) rfl ⟨rfl, hK⟩) (dt 4 31 (v := (.int .i64 ((i_2 : Nat) : Int))) (by kernel_rfl) rfl rfl (fun _ _ _ h => h) hS2 (fun _ _ _ hK => o_move (v := (.int .i64 ((i_2 : Nat) : Int))) rfl ⟨rfl, hK⟩) ?_))
  obtain ⟨x1_, hx1⟩ := getq (l := nodes_p) (k := i_2) (by have := ht1; omega)
  replace hP := hP x1_ hx1
  obtain ⟨ad1, cs1, ha1, hl1, hr5, hR1, hlt1⟩ := RSl.at hr1 hx1
  cases hR1
  refine dt 5 63 (v := (.pointer (some (ad1.add (i_2 * 1))))) (by kernel_rfl) rfl rfl (fun _ _ _ h => h) hS2 (fun _ _ _ hK => o_iaddr_slice (k := i_2) (a' := (ad1.add (i_2 * 1))) (congrArg (fun z => Value.slice z _ _) ha1) rfl rfl hlt1 Try.underlying23 Try.sizeOf9 rfl ⟨rfl, hK⟩) (dt 6 127 (v := (.string x1_)) (by kernel_rfl) rfl rfl (fun _ _ _ h => h) hS2 (fun _ hJ _ hK => o_load (v := (.string x1_)) rfl Try.isAgg9 (hr5.cell (View.of hsub1 hJ.view) 0 rfl rfl) ⟨rfl, hK⟩) (d1 7 255 (by kernel_rfl) rfl ?_))
  obtain ⟨Y2, hK1, hc1⟩ := hP
  refine o_call (args := [(.slice a1 i_2 cap1), (.string x1_)]) rfl Try.call13 (Calls.mono (w_ref1_Has (nodes_p.take i_2) x1_ (.slice a1 i_2 cap1) hS2.view (RSl.menc hsub1 hr4) hc1) ?_)
  rintro _ w2 ⟨r1_, rfl, hg1, hY1⟩
  refine ⟨_, rfl, ?_⟩
  have hS3 := hS2.grow hg1
  replace hP := hK1 r1_ hY1
  refine wpList_nil ?_
  refine ⟨rfl, hS3, ?_⟩
  refine dz (by kernel_rfl) (then_n ?_)
  refine if_b rfl (fun ht2 => ?_) (fun ht2 => ?_)
  ·
   replace hP := hP.1 ht2
   refine seq_reg (o_assign (v := (.slice none 0 0)) rfl (o_assign (v := (.int .i64 (10 : Int))) rfl (wpList_nil (then_n (wp_ret (blk_r (then_r (then_r (blk_r (then_r (ret2 rfl (show ev _ _ _ = (.slice none 0 0) from rfl) (show ev _ _ _ = (.int .i64 (10 : Int)) from rfl) ?_)))))))))))
   have hS4 := hS3.addNil 9 1
   exact ⟨[], (10 : Int), (.slice none 0 0), rfl, hS4.done.forget, (by simp [Sml]), hS4.own0 (i := 0) rfl, hP⟩
  ·
   replace hP := hP.2 (by first | (rw [ht2]; exact Bool.false_ne_true) | simp [ht2])
   refine wp_skip (blk_n (then_n (one_reg (o_move (v := (.int .i64 ((i_2 : Nat) : Int))) rfl (o_add (r := ((i_2 + 1 : Nat) : Int)) rfl rfl (nw (by omega) (by omega) (by have := hlen1; omega)) (o_assign (v := (.int .i64 ((i_2 + 1 : Nat) : Int))) rfl (wpList_nil (then_n ?_))))))))
   exact ⟨i_2 + 1, _, rfl, hP, σ1, _, (upd_in rfl (upd_in rfl (upd_in rfl rfl))), hS3, hsub1⟩
 ·
  replace hP := hP.2 ht1
  refine wp_exit (then_e (then_e (blk_hit (then_n (wp_seq (seq_reg (o_assign (v := (.int .i64 (0 : Int))) rfl (wpList_nil (then_n (wp_block ?_))))))))))
  refine lp_loop1 (fun i_4 f z => ∃ (σ2 : Hv) (g : Fr), f = (upd (upd (upd g 0 (.slice a1 nodes_p.length cap1)) 1 (.slice a2 edges_p.length cap2)) 7 (.int .i64 ((i_4 : Nat) : Int))) ∧ St ⟨w, σ, []⟩ z σ2 [] ∧ Sub σ1 σ2) hP ⟨σ1, _, (upd_in rfl (upd_in rfl (upd_in rfl rfl))), hS1, (Sub.refl _)⟩ ?_
  clear hP
  rintro i_4 Y3 hP f w3 ⟨σ2, g, rfl, hS5, hsub2⟩
  refine wp_seq (seq_reg (o_move (v := (.int .i64 ((i_4 : Nat) : Int))) rfl (o_move (v := (.slice a2 edges_p.length cap2)) rfl (o_len_slice rfl Try.underlying24 ?_))))
  have hlen2 := RSl.len63 hr2
  replace hP := hP hlen2
  refine o_lss (r := (decide (((i_4 : Nat) : Int) < ((edges_p.length : Nat) : Int)))) rfl rfl rfl (wpList_nil (then_n ?_))
  refine if_d (((i_4 : Nat) : Int) < ((edges_p.length : Nat) : Int)) rfl (fun ht3 => ?_) (fun ht3 => ?_)
  ·
   replace hP := hP.1 ht3
   refine wp_skip (then_n (wp_seq (wp_block (seq_reg (o_move (v := (.slice a1 nodes_p.length cap1)) rfl (o_move (v := (.slice a2 edges_p.length cap2)) rfl (o_move (v := (.int .i64 ((i_4 : Nat) : Int))) rfl ?_)))))))
   obtain ⟨x2_, hx2⟩ := getq (l := edges_p) (k := i_4) (by have := ht3; omega)
   replace hP := hP x2_ hx2
   obtain ⟨ad2, cs2, ha2, hl2, hr6, hR2, hlt2⟩ := RSl.at hr2 hx2
   cases hR2
   refine o_iaddr_slice (k := i_4) (a' := (ad2.add (i_4 * 2))) (congrArg (fun z => Value.slice z _ _) ha2) rfl rfl hlt2 Try.underlying24 Try.sizeOf40 rfl (o_faddr (a' := (((ad2.add (i_4 * 2))).add 0)) rfl Try.underlying40 rfl Try.sizeOf9 rfl (o_load (v := (.string x2_.1)) rfl Try.isAgg9 (hr6.cell (View.of (Sub.trans hsub1 hsub2) hS5.view) 0 rfl rfl) ?_))
   obtain ⟨Y4, hK2, hc2⟩ := hP
   refine o_call (args := [(.slice a1 nodes_p.length cap1), (.string x2_.1)]) rfl Try.call13 (Calls.mono (w_ref1_Has nodes_p x2_.1 (.slice a1 nodes_p.length cap1) hS5.view (RSl.menc (Sub.trans hsub1 hsub2) hr1) hc2) ?_)
   rintro _ w4 ⟨r2_, rfl, hg2, hY2⟩
   refine ⟨_, rfl, ?_⟩
   have hS6 := hS5.grow hg2
   replace hP := hK2 r2_ hY2
   refine o_not (r := (!r2_)) rfl rfl ?_
   rcases Bool.eq_false_or_eq_true (r2_) with hb1 | hb1
   ·
    replace hP := hP.1 hb1
    refine o_move (v := (.bool false)) (congrArg Value.bool (congrArg Bool.not hb1)) (o_on rfl rfl (o_move (v := (.slice a1 nodes_p.length cap1)) rfl (o_on rfl rfl (o_move (v := (.slice a2 edges_p.length cap2)) rfl (o_on rfl rfl (o_move (v := (.int .i64 ((i_4 : Nat) : Int))) rfl (o_on rfl rfl (o_iaddr_slice (k := i_4) (a' := (ad2.add (i_4 * 2))) (congrArg (fun z => Value.slice z _ _) ha2) rfl rfl hlt2 Try.underlying24 Try.sizeOf40 rfl (o_on rfl rfl (o_faddr (a' := (((ad2.add (i_4 * 2))).add 1)) rfl Try.underlying40 rfl Try.sizeOf9 rfl (o_on rfl rfl (o_load (v := (.string x2_.2)) rfl Try.isAgg9 (hr6.cell (View.of (Sub.trans hsub1 hsub2) hS6.view) 1 rfl rfl) (o_on rfl rfl ?_)))))))))))))
    obtain ⟨Y5, hK3, hc3⟩ := hP
    refine o_call (args := [(.slice a1 nodes_p.length cap1), (.string x2_.2)]) rfl Try.call13 (Calls.mono (w_ref1_Has nodes_p x2_.2 (.slice a1 nodes_p.length cap1) hS6.view (RSl.menc (Sub.trans hsub1 hsub2) hr1) hc3) ?_)
    rintro _ w5 ⟨r3_, rfl, hg3, hY3⟩
    refine ⟨_, rfl, ?_⟩
    have hS7 := hS6.grow hg3
    replace hP := hK3 r3_ hY3
    refine o_on rfl rfl (o_not (r := (!r3_)) rfl rfl (o_pick_f (v := (.bool (!r3_))) rfl rfl (wpList_nil (then_n ?_))))
    refine if_nb rfl (fun ht4 => ?_) (fun ht4 => ?_)
    ·
     replace hP := hP.2 (by first | (rw [ht4]; exact Bool.false_ne_true) | simp [ht4])
     refine seq_reg (o_assign (v := (.slice none 0 0)) rfl (o_assign (v := (.int .i64 (11 : Int))) rfl (wpList_nil (then_n (wp_ret (blk_r (then_r (then_r (blk_r (then_r (ret2 rfl (show ev _ _ _ = (.slice none 0 0) from rfl) (show ev _ _ _ = (.int .i64 (11 : Int)) from rfl) ?_)))))))))))
     have hS8 := hS7.addNil 9 1
     exact ⟨[], (11 : Int), (.slice none 0 0), rfl, hS8.done.forget, (by simp [Sml]), hS8.own0 (i := 0) rfl, hP⟩
    ·
     replace hP := hP.1 ht4
     refine wp_skip (blk_n (then_n (one_reg (o_move (v := (.int .i64 ((i_4 : Nat) : Int))) rfl (o_add (r := ((i_4 + 1 : Nat) : Int)) rfl rfl (nw (by omega) (by omega) (by have := hlen2; omega)) (o_assign (v := (.int .i64 ((i_4 + 1 : Nat) : Int))) rfl (wpList_nil (then_n ?_))))))))
     exact ⟨i_4 + 1, _, rfl, hP, σ2, _, (upd_in rfl (upd_in rfl (upd_in rfl rfl))), hS7, hsub2⟩
   ·
    replace hP := hP.2 (by first | (rw [hb1]; exact Bool.false_ne_true) | simp [hb1])
    refine o_move (v := (.bool true)) (congrArg Value.bool (congrArg Bool.not hb1)) (o_off rfl rfl (o_off rfl rfl (o_off rfl rfl (o_off rfl rfl (o_off rfl rfl (o_off rfl rfl (o_off rfl rfl (o_off rfl rfl (o_pick_t (v := (.bool true)) rfl rfl (wpList_nil (then_n (if_t rfl (seq_reg (o_assign (v := (.slice none 0 0)) rfl (o_assign (v := (.int .i64 (11 : Int))) rfl (wpList_nil (then_n (wp_ret (blk_r (then_r (then_r (blk_r (then_r (ret2 rfl (show ev _ _ _ = (.slice none 0 0) from rfl) (show ev _ _ _ = (.int .i64 (11 : Int)) from rfl) ?_))))))))))))))))))))))))
    have hS9 := hS6.addNil 9 1
    exact ⟨[], (11 : Int), (.slice none 0 0), rfl, hS9.done.forget, (by simp [Sml]), hS9.own0 (i := 0) rfl, hP⟩
  ·
   replace hP := hP.2 ht3
   refine wp_exit (then_e (then_e (blk_hit (then_n (seq_reg (o_assign (v := (.slice none 0 0)) rfl (wpList_nil (then_n (wp_seq (wp_block ?_))))))))))
   have hS10 := hS5.addNil 9 1
   refine lp_loop1 (fun order_2 f z => ∃ (v5 : Value) (σ3 : Hv) (g : Fr), f = (upd (upd (upd g 0 (.slice a1 nodes_p.length cap1)) 1 (.slice a2 edges_p.length cap2)) 8 v5) ∧ St ⟨w, σ, []⟩ z σ3 [vec v5 9 1 order_2.length ((order_2).flatMap encTx)] ∧ Sub σ2 σ3 ∧ v5.oneCell' = true ∧ Sml order_2.length) hP ⟨(.slice none 0 0), σ2, _, (upd_in rfl (upd_in rfl (upd_in rfl rfl))), hS10, (Sub.refl _), rfl, (by simp [Sml])⟩ ?_
   clear hP
   rintro order_2 Y6 hP f w6 ⟨v5, σ3, g, rfl, hS11, hsub3, ho2, hl4⟩
   refine wp_seq (seq_reg (o_move (v := v5) rfl (o_len_vec hS11 rfl (i := 0) rfl Try.underlying23 ?_)))
   have hlen3 : order_2.length ≤ 9223372036854775807 := by have := hl4; unfold Sml at this; omega
   replace hP := hP hlen3
   refine o_move (v := (.slice a1 nodes_p.length cap1)) rfl (o_len_slice rfl Try.underlying23 (o_lss (r := (decide (((order_2.length : Nat) : Int) < ((nodes_p.length : Nat) : Int)))) rfl rfl rfl (wpList_nil (then_n ?_))))
   refine if_d (((order_2.length : Nat) : Int) < ((nodes_p.length : Nat) : Int)) rfl (fun ht5 => ?_) (fun ht5 => ?_)
   ·
    replace hP := hP.1 ht5
    refine wp_skip (then_n (wp_block (seq_reg (o_assign (v := (.string (⟨#[]⟩ : ByteArray))) rfl (o_assign (v := (.bool false)) rfl (wpList_nil (then_n (wp_seq (seq_reg (o_assign (v := (.int .i64 (0 : Int))) rfl (wpList_nil (then_n (wp_block ?_)))))))))))))
    refine lp_loop3 (fun least_2 found_2 i_6 f z => ∃ (σ4 : Hv) (g : Fr), f = (upd (upd (upd (upd (upd (upd g 0 (.slice a1 nodes_p.length cap1)) 1 (.slice a2 edges_p.length cap2)) 8 v5) 9 (.string least_2)) 10 (.bool (found_2))) 11 (.int .i64 ((i_6 : Nat) : Int))) ∧ St ⟨w, σ, []⟩ z σ4 [vec v5 9 1 order_2.length ((order_2).flatMap encTx)] ∧ Sub σ3 σ4) hP ⟨σ3, _, (upd_in rfl (upd_in rfl (upd_in rfl (upd_in rfl (upd_in rfl (upd_in rfl rfl)))))), hS11, (Sub.refl _)⟩ ?_
    clear hP
    rintro least_2 found_2 i_6 Y7 hP f w7 ⟨σ4, g, rfl, hS12, hsub4⟩
    refine wp_seq (seq_reg (o_move (v := (.int .i64 ((i_6 : Nat) : Int))) rfl (o_move (v := (.slice a1 nodes_p.length cap1)) rfl (o_len_slice rfl Try.underlying23 (o_lss (r := (decide (((i_6 : Nat) : Int) < ((nodes_p.length : Nat) : Int)))) rfl rfl rfl (wpList_nil (then_n ?_)))))))
    refine if_d (((i_6 : Nat) : Int) < ((nodes_p.length : Nat) : Int)) rfl (fun ht6 => ?_) (fun ht6 => ?_)
    ·
     replace hP := hP.1 ht6
     refine wp_skip (then_n (wp_seq (wp_block (seq_reg (o_move (v := v5) rfl (o_move (v := (.slice a2 edges_p.length cap2)) rfl (o_move (v := (.slice a1 nodes_p.length cap1)) rfl (o_move (v := (.int .i64 ((i_6 : Nat) : Int))) rfl ?_))))))))
     obtain ⟨x3_, hx3⟩ := getq (l := nodes_p) (k := i_6) (by have := ht6; omega)
     replace hP := hP x3_ hx3
     obtain ⟨ad3, cs3, ha3, hl5, hr7, hR3, hlt3⟩ := RSl.at hr1 hx3
     cases hR3
     refine o_iaddr_slice (k := i_6) (a' := (ad3.add (i_6 * 1))) (congrArg (fun z => Value.slice z _ _) ha3) rfl rfl hlt3 Try.underlying23 Try.sizeOf9 rfl (o_load (v := (.string x3_)) rfl Try.isAgg9 (hr7.cell (View.of (Sub.trans (Sub.trans (Sub.trans hsub1 hsub2) hsub3) hsub4) hS12.view) 0 rfl rfl) ?_)
     obtain ⟨σ5, hS13, hsub5, hr8⟩ := hS12.peek (i := 0) rfl (notin0 _) encTx_len hl4
     obtain ⟨Y8, hK4, hc4⟩ := hP
     refine o_call (args := [v5, (.slice a2 edges_p.length cap2), (.string x3_)]) rfl Try.call32 (Calls.mono (w_ref9_ready order_2 edges_p x3_ v5 (.slice a2 edges_p.length cap2) hS13.view hr8 (RSl.menc (Sub.trans (Sub.trans (Sub.trans (Sub.trans hsub1 hsub2) hsub3) hsub4) hsub5) hr2) hc4) ?_)
     rintro _ w8 ⟨r4_, rfl, hg4, hY4⟩
     refine ⟨_, rfl, ?_⟩
     have hg4b := hg4.back hsub5
     have hS14 := hS12.grow hg4b
     replace hP := hK4 r4_ hY4
     rcases Bool.eq_false_or_eq_true (r4_) with hb2 | hb2
     ·
      replace hP := hP.1 hb2
      refine o_move (v := (.bool true)) (congrArg Value.bool hb2) (o_on rfl rfl (o_move (v := (.bool (found_2))) rfl (o_on rfl rfl (o_not (r := (!found_2)) rfl rfl (o_on rfl rfl ?_)))))
      rcases Bool.eq_false_or_eq_true (found_2) with hb3 | hb3
      ·
       replace hP := hP.1 hb3
       refine o_move (v := (.bool false)) (congrArg Value.bool (congrArg Bool.not hb3)) (o_on rfl rfl (o_move (v := (.slice a1 nodes_p.length cap1)) rfl (o_on rfl rfl (o_move (v := (.int .i64 ((i_6 : Nat) : Int))) rfl (o_on rfl rfl (o_iaddr_slice (k := i_6) (a' := (ad3.add (i_6 * 1))) (congrArg (fun z => Value.slice z _ _) ha3) rfl rfl hlt3 Try.underlying23 Try.sizeOf9 rfl (o_on rfl rfl (o_load (v := (.string x3_)) rfl Try.isAgg9 (hr7.cell (View.of (Sub.trans (Sub.trans (Sub.trans hsub1 hsub2) hsub3) hsub4) hS14.view) 0 rfl rfl) (o_on rfl rfl (o_move (v := (.string least_2)) rfl (o_on rfl rfl (o_lsss (r := (decide (Lk.blt x3_ least_2))) rfl rfl rfl (o_on rfl rfl (o_pick_f (v := (.bool (decide (Lk.blt x3_ least_2)))) rfl rfl (o_pick_t (v := (.bool (decide (Lk.blt x3_ least_2)))) rfl rfl (wpList_nil (then_n ?_)))))))))))))))))
       refine if_d (Lk.blt x3_ least_2) rfl (fun ht7 => ?_) (fun ht7 => ?_)
       ·
        replace hP := hP.1 ht7
        refine one_reg (o_move (v := (.slice a1 nodes_p.length cap1)) rfl (o_move (v := (.int .i64 ((i_6 : Nat) : Int))) rfl (o_iaddr_slice (k := i_6) (a' := (ad3.add (i_6 * 1))) (congrArg (fun z => Value.slice z _ _) ha3) rfl rfl hlt3 Try.underlying23 Try.sizeOf9 rfl (o_load (v := (.string x3_)) rfl Try.isAgg9 (hr7.cell (View.of (Sub.trans (Sub.trans (Sub.trans hsub1 hsub2) hsub3) hsub4) hS14.view) 0 rfl rfl) (o_assign (v := (.string x3_)) rfl (o_assign (v := (.bool true)) rfl (wpList_nil (blk_n (then_n (one_reg (o_move (v := (.int .i64 ((i_6 : Nat) : Int))) rfl (o_add (r := ((i_6 + 1 : Nat) : Int)) rfl rfl (nw (by omega) (by omega) (by have := hlen1; omega)) (o_assign (v := (.int .i64 ((i_6 + 1 : Nat) : Int))) rfl (wpList_nil (then_n ?_)))))))))))))))
        exact ⟨x3_, true, i_6 + 1, _, rfl, hP, σ4, _, (upd_in rfl (upd_in rfl (upd_in rfl (upd_in rfl (upd_in rfl (upd_in rfl rfl)))))), hS14, hsub4⟩
       ·
        replace hP := hP.2 ht7
        refine wp_skip (blk_n (then_n (one_reg (o_move (v := (.int .i64 ((i_6 : Nat) : Int))) rfl (o_add (r := ((i_6 + 1 : Nat) : Int)) rfl rfl (nw (by omega) (by omega) (by have := hlen1; omega)) (o_assign (v := (.int .i64 ((i_6 + 1 : Nat) : Int))) rfl (wpList_nil (then_n ?_))))))))
        exact ⟨least_2, (found_2), i_6 + 1, _, rfl, hP, σ4, _, (upd_in rfl (upd_in rfl (upd_in rfl (upd_in rfl (upd_in rfl (upd_in rfl rfl)))))), hS14, hsub4⟩
      ·
       replace hP := hP.2 (by first | (rw [hb3]; exact Bool.false_ne_true) | simp [hb3])
       refine o_move (v := (.bool true)) (congrArg Value.bool (congrArg Bool.not hb3)) (o_off rfl rfl (o_off rfl rfl (o_off rfl rfl (o_off rfl rfl (o_off rfl rfl (o_off rfl rfl (o_on rfl rfl (o_pick_t (v := (.bool true)) rfl rfl (o_pick_t (v := (.bool true)) rfl rfl (wpList_nil (then_n (if_t rfl (one_reg (o_move (v := (.slice a1 nodes_p.length cap1)) rfl (o_move (v := (.int .i64 ((i_6 : Nat) : Int))) rfl (o_iaddr_slice (k := i_6) (a' := (ad3.add (i_6 * 1))) (congrArg (fun z => Value.slice z _ _) ha3) rfl rfl hlt3 Try.underlying23 Try.sizeOf9 rfl (o_load (v := (.string x3_)) rfl Try.isAgg9 (hr7.cell (View.of (Sub.trans (Sub.trans (Sub.trans hsub1 hsub2) hsub3) hsub4) hS14.view) 0 rfl rfl) (o_assign (v := (.string x3_)) rfl (o_assign (v := (.bool true)) rfl (wpList_nil (blk_n (then_n (one_reg (o_move (v := (.int .i64 ((i_6 : Nat) : Int))) rfl (o_add (r := ((i_6 + 1 : Nat) : Int)) rfl rfl (nw (by omega) (by omega) (by have := hlen1; omega)) (o_assign (v := (.int .i64 ((i_6 + 1 : Nat) : Int))) rfl (wpList_nil (then_n ?_))))))))))))))))))))))))))))
       exact ⟨x3_, true, i_6 + 1, _, rfl, hP, σ4, _, (upd_in rfl (upd_in rfl (upd_in rfl (upd_in rfl (upd_in rfl (upd_in rfl rfl)))))), hS14, hsub4⟩
     ·
      replace hP := hP.2 (by first | (rw [hb2]; exact Bool.false_ne_true) | simp [hb2])
      refine o_move (v := (.bool false)) (congrArg Value.bool hb2) (o_off rfl rfl (o_off rfl rfl (o_off rfl rfl (o_offu rfl rfl (o_offu rfl rfl (o_offu rfl rfl (o_offu rfl rfl (o_offu rfl rfl (o_offu rfl rfl (o_off rfl rfl (o_pick_f (v := (.bool false)) rfl rfl (wpList_nil (then_n (if_f rfl (wp_skip (blk_n (then_n (one_reg (o_move (v := (.int .i64 ((i_6 : Nat) : Int))) rfl (o_add (r := ((i_6 + 1 : Nat) : Int)) rfl rfl (nw (by omega) (by omega) (by have := hlen1; omega)) (o_assign (v := (.int .i64 ((i_6 + 1 : Nat) : Int))) rfl (wpList_nil (then_n ?_)))))))))))))))))))))))
      exact ⟨least_2, (found_2), i_6 + 1, _, rfl, hP, σ4, _, (upd_in rfl (upd_in rfl (upd_in rfl (upd_in rfl (upd_in rfl (upd_in rfl rfl)))))), hS14, hsub4⟩
    ·
     replace hP := hP.2 ht6
     refine wp_exit (then_e (then_e (blk_hit (then_n (wp_seq (seq_reg (o_move (v := (.bool (found_2))) rfl (o_not (r := (!found_2)) rfl rfl (wpList_nil (then_n ?_))))))))))
     refine if_nb rfl (fun ht8 => ?_) (fun ht8 => ?_)
     ·
      replace hP := hP.2 (by first | (rw [ht8]; exact Bool.false_ne_true) | simp [ht8])
      refine seq_reg (o_assign (v := (.slice none 0 0)) rfl (o_assign (v := (.int .i64 (12 : Int))) rfl (wpList_nil (then_n (wp_ret (then_r (blk_r (then_r (blk_r (then_r (ret2 rfl (show ev _ _ _ = (.slice none 0 0) from rfl) (show ev _ _ _ = (.int .i64 (12 : Int)) from rfl) ?_)))))))))))
      have hS15 := hS12.addNil 9 1
      exact ⟨[], (12 : Int), (.slice none 0 0), rfl, hS15.done.forget, (by simp [Sml]), hS15.own0 (i := 0) rfl, hP⟩
     ·
      replace hP := hP.1 ht8
      refine wp_skip (then_n (one_reg (o_move (v := v5) rfl ?_)))
      have hS16 := hS12.addNil 9 1
      obtain ⟨hsm1, hP⟩ := hP
      refine o_appV (enc := encTx) (l := order_2) (qy := 1) (Ms := fun v6 => [vec v6 9 1 order_2.length ((order_2).flatMap encTx), vec v5 9 1 order_2.length ((order_2).flatMap encTx)]) (k' := order_2.length) (xs' := (order_2).flatMap encTx) Try.underlying23 Try.type9 rfl rfl (bytes := 16) rfl rfl (Nat.succ_pos _) hS16 rfl (q := 0) rfl rfl rfl encTx_len encTx_one hsm1 (by omega) (by first | rfl | exact List.length_append.symm | simp) (List.nil_append _) (fun _ => rfl) ?_
      intro v6 w9 ho3 hS17
      refine o_move (v := (.string least_2)) rfl (o_bslice (cs := [(.string least_2)]) (e := 9) hS17 (fun _ => by kernel_rfl) ?_)
      intro b1 w10 hS18
      obtain ⟨hsm2, hP⟩ := hP
      refine o_app (Ms := fun v7 => [blk b1 9 [(.string least_2)], vec v7 9 1 ((order_2 ++ [least_2]).length) ((order_2 ++ [least_2]).flatMap encTx), vec v5 9 1 order_2.length ((order_2).flatMap encTx)]) (k' := (order_2 ++ [least_2]).length) (xs' := (order_2 ++ [least_2]).flatMap encTx) Try.underlying23 Try.type9 rfl rfl (bytes := 16) rfl rfl (Nat.succ_pos _) hS18 rfl (q := 1) rfl rfl rfl (blk_row (hS18.get (i := 0) rfl)) (ones rfl) hsm2 (by omega) (by first | rfl | exact List.length_append.symm | simp) (by simp [encTx]) (fun _ => rfl) ?_
      intro v7 w11 ho4 hS19
      have hS20 := hS19.drop 0 (ms' := [vec v7 9 1 ((order_2 ++ [least_2]).length) ((order_2 ++ [least_2]).flatMap encTx), vec v5 9 1 order_2.length ((order_2).flatMap encTx)]) rfl
      refine o_assign (v := v7) rfl (wpList_nil (blk_n (then_n ?_)))
      exact ⟨order_2 ++ [least_2], _, rfl, hP, v7, σ4, _, (upd_in rfl (upd_in rfl (upd_in rfl rfl))), (hS20.keep 1 (ms' := [vec v7 9 1 ((order_2 ++ [least_2]).length) ((order_2 ++ [least_2]).flatMap encTx)]) rfl), (Sub.trans hsub3 hsub4), ho4, hsm2⟩
   ·
    replace hP := hP.2 ht5
    refine wp_exit (then_e (then_e (blk_hit (then_n (seq_reg (o_move (v := v5) rfl (o_assign (v := v5) rfl (o_assign (v := (.int .i64 (0 : Int))) rfl (wpList_nil (then_n (wp_ret (ret2 rfl (show ev _ _ _ = v5 from rfl) (show ev _ _ _ = (.int .i64 (0 : Int)) from rfl) ?_))))))))))))
    exact ⟨order_2, (0 : Int), v5, rfl, hS11.done.forget, hl4, hS11.own0 (i := 0) rfl, hP⟩

set_option maxHeartbeats 2000000 in
theorem w_ref9_Needs {σ : Hv} {w : World} (edges_p : (List (ByteArray × ByteArray))) (node_p : ByteArray) (v1 : Value) {K : (List ByteArray) → Prop} (hV : View σ w) (hr1 : RSl 2 (REnc encEd) σ v1 edges_p) (hP : P_ref9_Needs edges_p node_p K) :
    Calls Try.prog 16 #[v1, (.string node_p)] w (fun e w1 => ∃ (r1 : (List ByteArray)) (v2 : Value) (σ1 : Hv), e = .returned v2 ∧ Grow [] σ w σ1 w1 ∧ RSl 1 (REnc encTx) σ1 v2 r1 ∧ K r1) := by
 unfold P_ref9_Needs at hP
 obtain ⟨a1, cap1, rfl⟩ := hr1.shape
 refine enter Try.func16 rfl rfl rfl ?_
 have hS := St.start hV
 refine seq_reg (o_assign (v := (.slice none 0 0)) rfl (wpList_nil (then_n (seq_reg (o_assign (v := (.slice none 0 0)) rfl (wpList_nil (then_n (seq_reg (o_move (v := (.string node_p)) rfl (o_bslice (cs := [(.string node_p)]) (e := 9) hS (fun _ => by kernel_rfl) ?_))))))))))
 intro b1 w1 hS1
 refine o_assign (v := (.slice (some ⟨b1, 0, none⟩) 1 1)) rfl (wpList_nil (then_n (wp_seq (wp_block ?_))))
 have hS2 := hS1.asVec (i := 0) (ms' := [vec (.slice (some ⟨b1, 0, none⟩) 1 1) 9 1 1 (([node_p]).flatMap encTx)]) (size := 1) rfl rfl (by unfold maxLen; omega) rfl
 obtain ⟨σ2, hS3, hsub2, hr7⟩ := hS2.peek (i := 0) rfl (notin0 _) encTx_len (by simp [Sml])
 refine lp_loop2 (fun out_3 todo_3 f z => ∃ (v7 : Value) (v8 : Value) (σ1 : Hv) (g : Fr), f = (upd (upd (upd g 0 (.slice a1 edges_p.length cap1)) 5 v7) 6 v8) ∧ St ⟨w, σ, []⟩ z σ1 [] ∧ Sub σ σ1 ∧ RSl 1 (REnc encTx) σ1 v7 out_3 ∧ RSl 1 (REnc encTx) σ1 v8 todo_3) hP ⟨(.slice none 0 0), (.slice (some ⟨b1, 0, none⟩) 1 1), σ2, _, (upd_in rfl (upd_in rfl (upd_in rfl rfl))), hS3, hsub2, RSl.nil, hr7⟩ ?_
 clear hP
 rintro out_3 todo_3 Y1 hP f w2 ⟨v7, v8, σ1, g, rfl, hS4, hsub1, hr5, hr6⟩
 obtain ⟨a2, cap2, rfl⟩ := hr5.shape
 obtain ⟨a3, cap3, rfl⟩ := hr6.shape
 refine wp_seq (seq_reg (o_move (v := (.slice a3 todo_3.length cap3)) rfl (o_len_slice rfl Try.underlying23 ?_)))
 have hlen1 := RSl.len63 hr6
 replace hP := hP hlen1
 refine o_gtr (r := (decide ((0 : Int) < ((todo_3.length : Nat) : Int)))) rfl rfl rfl (wpList_nil (then_n ?_))
 refine if_d ((0 : Int) < ((todo_3.length : Nat) : Int)) rfl (fun ht1 => ?_) (fun ht1 => ?_)
 ·
  replace hP := hP.1 ht1
  refine wp_skip (then_n (wp_block (seq_reg (o_move (v := (.slice a3 todo_3.length cap3)) rfl ?_))))
  obtain ⟨x1_, hx1, hP⟩ := hP
  obtain ⟨ad1, cs1, ha1, hl3, hr8, hR1, hlt1⟩ := RSl.at hr6 hx1
  cases hR1
  refine o_iaddr_slice (k := 0) (a' := (ad1.add (0 * 1))) (congrArg (fun z => Value.slice z _ _) ha1) rfl rfl hlt1 Try.underlying23 Try.sizeOf9 rfl (o_load (v := (.string x1_)) rfl Try.isAgg9 (hr8.cell hS4.view 0 rfl rfl) (o_assign (v := (.string x1_)) rfl (wpList_nil (then_n (seq_reg (o_move (v := (.slice a3 todo_3.length cap3)) rfl ?_))))))
  obtain ⟨hle1, hP⟩ := hP
  have hcl1 := RSl.capLen hr6
  have hr9 := RSl.drop hr6 1 hle1
  refine o_slice (l := 1) (r := todo_3.length) (v := (.slice (if cap3 = 1 then a3 else a3.map (·.add (1 * 1))) (todo_3.length - 1) (cap3 - 1))) rfl Try.underlying23 Try.sizeOf9 (.inr ⟨_, rfl, rfl⟩) (.inl ⟨rfl, rfl⟩) (by omega) (by omega) rfl (o_assign (v := (.slice (if cap3 = 1 then a3 else a3.map (·.add (1 * 1))) (todo_3.length - 1) (cap3 - 1))) rfl (wpList_nil (then_n (seq_reg (o_assign (v := (.int .i64 (0 : Int))) rfl (wpList_nil (then_n (wp_block ?_))))))))
  refine lp_loop3 (fun out_5 todo_5 i_2 f z => ∃ (v11 : Value) (v12 : Value) (σ3 : Hv) (g : Fr), f = (upd (upd (upd (upd (upd g 0 (.slice a1 edges_p.length cap1)) 5 v11) 6 v12) 7 (.string x1_)) 8 (.int .i64 ((i_2 : Nat) : Int))) ∧ St ⟨w, σ, []⟩ z σ3 [] ∧ Sub σ1 σ3 ∧ RSl 1 (REnc encTx) σ3 v11 out_5 ∧ RSl 1 (REnc encTx) σ3 v12 todo_5) hP ⟨(.slice a2 out_3.length cap2), (.slice (if cap3 = 1 then a3 else a3.map (·.add (1 * 1))) (todo_3.length - 1) (cap3 - 1)), σ1, _, (upd_in rfl (upd_in rfl (upd_in rfl (upd_in rfl (upd_in rfl rfl))))), hS4, (Sub.refl _), hr5, hr9⟩ ?_
  clear hP
  rintro out_5 todo_5 i_2 Y2 hP f w3 ⟨v11, v12, σ3, g, rfl, hS5, hsub3, hr12, hr13⟩
  obtain ⟨a4, cap4, rfl⟩ := hr12.shape
  obtain ⟨a5, cap5, rfl⟩ := hr13.shape
  refine wp_seq (seq_reg (o_move (v := (.int .i64 ((i_2 : Nat) : Int))) rfl (o_move (v := (.slice a1 edges_p.length cap1)) rfl (o_len_slice rfl Try.underlying24 ?_))))
  have hlen2 := RSl.len63 hr1
  replace hP := hP hlen2
  refine o_lss (r := (decide (((i_2 : Nat) : Int) < ((edges_p.length : Nat) : Int)))) rfl rfl rfl (wpList_nil (then_n ?_))
  refine if_d (((i_2 : Nat) : Int) < ((edges_p.length : Nat) : Int)) rfl (fun ht2 => ?_) (fun ht2 => ?_)
  ·
   replace hP := hP.1 ht2
   refine wp_skip (then_n (wp_seq (wp_block (seq_reg (o_move (v := (.slice a1 edges_p.length cap1)) rfl (o_move (v := (.int .i64 ((i_2 : Nat) : Int))) rfl ?_))))))
   obtain ⟨x2_, hx2⟩ := getq (l := edges_p) (k := i_2) (by have := ht2; omega)
   replace hP := hP x2_ hx2
   obtain ⟨ad2, cs2, ha2, hl4, hr14, hR2, hlt2⟩ := RSl.at hr1 hx2
   cases hR2
   refine o_iaddr_slice (k := i_2) (a' := (ad2.add (i_2 * 2))) (congrArg (fun z => Value.slice z _ _) ha2) rfl rfl hlt2 Try.underlying24 Try.sizeOf40 rfl (o_faddr (a' := (((ad2.add (i_2 * 2))).add 0)) rfl Try.underlying40 rfl Try.sizeOf9 rfl (o_load (v := (.string x2_.1)) rfl Try.isAgg9 (hr14.cell (View.of (Sub.trans hsub1 hsub3) hS5.view) 0 rfl rfl) (o_move (v := (.string x1_)) rfl (o_eqls (r := (decide (x2_.1 = x1_))) rfl rfl rfl ?_))))
   by_cases hb1 : x2_.1 = x1_
   ·
    replace hP := hP.1 hb1
    refine o_move (v := (.bool true)) (congrArg Value.bool (decide_eq_true hb1)) (o_on rfl rfl (o_move (v := (.slice a4 out_5.length cap4)) rfl (o_on rfl rfl (o_move (v := (.slice a1 edges_p.length cap1)) rfl (o_on rfl rfl (o_move (v := (.int .i64 ((i_2 : Nat) : Int))) rfl (o_on rfl rfl (o_iaddr_slice (k := i_2) (a' := (ad2.add (i_2 * 2))) (congrArg (fun z => Value.slice z _ _) ha2) rfl rfl hlt2 Try.underlying24 Try.sizeOf40 rfl (o_on rfl rfl (o_faddr (a' := (((ad2.add (i_2 * 2))).add 1)) rfl Try.underlying40 rfl Try.sizeOf9 rfl (o_on rfl rfl (o_load (v := (.string x2_.2)) rfl Try.isAgg9 (hr14.cell (View.of (Sub.trans hsub1 hsub3) hS5.view) 1 rfl rfl) (o_on rfl rfl ?_)))))))))))))
    obtain ⟨Y3, hK1, hc1⟩ := hP
    refine o_call (args := [(.slice a4 out_5.length cap4), (.string x2_.2)]) rfl Try.call13 (Calls.mono (w_ref1_Has out_5 x2_.2 (.slice a4 out_5.length cap4) hS5.view hr12 hc1) ?_)
    rintro _ w4 ⟨r1_, rfl, hg1, hY1⟩
    refine ⟨_, rfl, ?_⟩
    have hS6 := hS5.grow hg1
    replace hP := hK1 r1_ hY1
    refine o_on rfl rfl (o_not (r := (!r1_)) rfl rfl (o_pick_t (v := (.bool (!r1_))) rfl rfl (wpList_nil (then_n ?_))))
    refine if_nb rfl (fun ht3 => ?_) (fun ht3 => ?_)
    ·
     replace hP := hP.2 (by first | (rw [ht3]; exact Bool.false_ne_true) | simp [ht3])
     refine seq_reg (o_move (v := (.slice a4 out_5.length cap4)) rfl (o_move (v := (.slice a1 edges_p.length cap1)) rfl (o_move (v := (.int .i64 ((i_2 : Nat) : Int))) rfl (o_iaddr_slice (k := i_2) (a' := (ad2.add (i_2 * 2))) (congrArg (fun z => Value.slice z _ _) ha2) rfl rfl hlt2 Try.underlying24 Try.sizeOf40 rfl (o_faddr (a' := (((ad2.add (i_2 * 2))).add 1)) rfl Try.underlying40 rfl Try.sizeOf9 rfl (o_load (v := (.string x2_.2)) rfl Try.isAgg9 (hr14.cell (View.of (Sub.trans hsub1 hsub3) hS6.view) 1 rfl rfl) ?_))))))
     obtain ⟨Y4, hK2, hc2⟩ := hP
     refine o_call (args := [(.slice a4 out_5.length cap4), (.string x2_.2)]) rfl Try.call36 (Calls.mono (w_ref1_Add out_5 x2_.2 (.slice a4 out_5.length cap4) hS6.view hr12 hc2) ?_)
     rintro _ w5 ⟨r2_, v13, σ4, rfl, hg2, hr15, hY2⟩
     refine ⟨_, rfl, ?_⟩
     have hS7 := hS6.grow hg2
     replace hP := hK2 r2_ hY2
     obtain ⟨a6, cap6, rfl⟩ := hr15.shape
     refine o_assign (v := (.slice a6 r2_.length cap6)) rfl (wpList_nil (then_n (dr (fun z => St ⟨w, σ, []⟩ z σ4 []) (by kernel_rfl) rfl ?_)))
     have hS8 := hS7.drew
     refine dt 0 1 (v := (.slice a5 todo_5.length cap5)) (by kernel_rfl) rfl rfl (fun _ _ _ h => h) hS8 (fun _ _ _ hK => o_move (v := (.slice a5 todo_5.length cap5)) rfl ⟨rfl, hK⟩) (dt 2 5 (v := (.slice a1 edges_p.length cap1)) (by kernel_rfl) rfl rfl (fun _ _ _ h => h) hS8 (fun _ _ _ hK => o_move (v := (.slice a1 edges_p.length cap1)) rfl ⟨rfl, hK⟩) (dt 3 13 (v := (.int .i64 ((i_2 : Nat) : Int))) (by kernel_rfl) rfl rfl (fun _ _ _ h => h) hS8 (fun _ _ _ hK => o_move (v := (.int .i64 ((i_2 : Nat) : Int))) rfl ⟨rfl, hK⟩) (dt 4 29 (v := (.pointer (some (ad2.add (i_2 * 2))))) (by kernel_rfl) rfl rfl (fun _ _ _ h => h) hS8 (fun _ _ _ hK => o_iaddr_slice (k := i_2) (a' := (ad2.add (i_2 * 2))) (congrArg (fun z => Value.slice z _ _) ha2) rfl rfl hlt2 Try.underlying24 Try.sizeOf40 rfl ⟨rfl, hK⟩) (dt 5 61 (v := (.pointer (some (((ad2.add (i_2 * 2))).add 1)))) (by kernel_rfl) rfl rfl (fun _ _ _ h => h) hS8 (fun _ _ _ hK => o_faddr (a' := (((ad2.add (i_2 * 2))).add 1)) rfl Try.underlying40 rfl Try.sizeOf9 rfl ⟨rfl, hK⟩) (dt 6 125 (v := (.string x2_.2)) (by kernel_rfl) rfl rfl (fun _ _ _ h => h) hS8 (fun _ hJ _ hK => o_load (v := (.string x2_.2)) rfl Try.isAgg9 (hr14.cell (View.of (Sub.trans (Sub.trans hsub1 hsub3) hg2.sub) hJ.view) 1 rfl rfl) ⟨rfl, hK⟩) ?_)))))
     refine d2 1 7 127 253 (by kernel_rfl) rfl rfl rfl rfl ?_ ?_
     ·
      have hS9 := hS8.addNil 9 1
      obtain ⟨hsm1, hP⟩ := hP
      refine o_appR (enc := encTx) (l := todo_5) (Ms := fun v14 => [vec v14 9 1 todo_5.length ((todo_5).flatMap encTx)]) (k' := todo_5.length) (xs' := (todo_5).flatMap encTx) Try.underlying23 Try.type9 rfl rfl (bytes := 16) rfl rfl (Nat.succ_pos _) hS9 rfl (q := 0) rfl rfl hr13 (View.of hg2.sub hS9.view) encTx_len encTx_one hsm1 (by omega) (by first | rfl | exact List.length_append.symm | simp) (List.nil_append _) (fun _ => rfl) ?_
      intro v14 w6 ho3 hS10
      refine wpList_nil ?_
      refine ⟨rfl, (hS10.sublist (List.nil_sublist _)), ?_⟩
      refine d1 7 255 (by kernel_rfl) rfl (o_bslice (cs := [(.string x2_.2)]) (e := 9) hS10 (fun _ => by kernel_rfl) ?_)
      intro b2 w7 hS11
      refine wpList_nil ?_
      refine ⟨rfl, (hS11.sublist (List.nil_sublist _)), ?_⟩
      refine d1 8 511 (by kernel_rfl) rfl ?_
      obtain ⟨hsm2, hP⟩ := hP
      refine o_app (Ms := fun v15 => [blk b2 9 [(.string x2_.2)], vec v15 9 1 ((todo_5 ++ [x2_.2]).length) ((todo_5 ++ [x2_.2]).flatMap encTx)]) (k' := (todo_5 ++ [x2_.2]).length) (xs' := (todo_5 ++ [x2_.2]).flatMap encTx) Try.underlying23 Try.type9 rfl rfl (bytes := 16) rfl rfl (Nat.succ_pos _) hS11 rfl (q := 1) rfl rfl rfl (blk_row (hS11.get (i := 0) rfl)) (ones rfl) hsm2 (by omega) (by first | rfl | exact List.length_append.symm | simp) (by simp [encTx]) (fun _ => rfl) ?_
      intro v15 w8 ho4 hS12
      have hS13 := hS12.drop 0 (ms' := [vec v15 9 1 ((todo_5 ++ [x2_.2]).length) ((todo_5 ++ [x2_.2]).flatMap encTx)]) rfl
      refine wpList_nil ?_
      refine ⟨rfl, (hS13.sublist (List.nil_sublist _)), wpJ_weak (J' := fun z => St ⟨w, σ, []⟩ z σ4 [vec v15 9 1 ((todo_5 ++ [x2_.2]).length) ((todo_5 ++ [x2_.2]).flatMap encTx)]) (fun w h => h.sublist (List.nil_sublist _)) _ _ _ _ ?_⟩
      refine dt 9 1023 (v := v15) (by kernel_rfl) rfl rfl (fun _ _ _ h => h) hS13 (fun _ _ _ hK => o_assign (v := v15) rfl ⟨rfl, hK⟩) (dz (by kernel_rfl) (blk_n (then_n (one_reg (o_move (v := (.int .i64 ((i_2 : Nat) : Int))) rfl (o_add (r := ((i_2 + 1 : Nat) : Int)) rfl rfl (nw (by omega) (by omega) (by have := hlen2; omega)) (o_assign (v := (.int .i64 ((i_2 + 1 : Nat) : Int))) rfl (wpList_nil (then_n ?_)))))))))
      obtain ⟨σ5, hS14, hsub4, hr16⟩ := hS13.peek (i := 0) rfl (notin0 _) encTx_len hsm2
      obtain ⟨a7, cap7, rfl⟩ := hr16.shape
      exact ⟨r2_, todo_5 ++ [x2_.2], i_2 + 1, _, rfl, hP, (.slice a6 r2_.length cap6), (.slice a7 (todo_5 ++ [x2_.2]).length cap7), σ5, _, (upd_in rfl (upd_in rfl (upd_in rfl (upd_in rfl (upd_in rfl rfl))))), hS14, (Sub.trans (Sub.trans hsub3 hg2.sub) hsub4), (RSl.menc hsub4 hr15), hr16⟩
     ·
      refine o_bslice (cs := [(.string x2_.2)]) (e := 9) hS8 (fun _ => by kernel_rfl) ?_
      intro b2 w6 hS9
      refine wpList_nil ?_
      refine ⟨rfl, (hS9.sublist (List.nil_sublist _)), ?_⟩
      refine d1 1 255 (by kernel_rfl) rfl ?_
      have hS10 := hS9.addNil 9 1
      obtain ⟨hsm1, hP⟩ := hP
      refine o_appR (enc := encTx) (l := todo_5) (Ms := fun v14 => [vec v14 9 1 todo_5.length ((todo_5).flatMap encTx), blk b2 9 [(.string x2_.2)]]) (k' := todo_5.length) (xs' := (todo_5).flatMap encTx) Try.underlying23 Try.type9 rfl rfl (bytes := 16) rfl rfl (Nat.succ_pos _) hS10 rfl (q := 0) rfl rfl hr13 (View.of hg2.sub hS10.view) encTx_len encTx_one hsm1 (by omega) (by first | rfl | exact List.length_append.symm | simp) (List.nil_append _) (fun _ => rfl) ?_
      intro v14 w7 ho3 hS11
      refine wpList_nil ?_
      refine ⟨rfl, (hS11.sublist (List.nil_sublist _)), ?_⟩
      refine d1 8 511 (by kernel_rfl) rfl ?_
      obtain ⟨hsm2, hP⟩ := hP
      refine o_app (Ms := fun v15 => [vec v15 9 1 ((todo_5 ++ [x2_.2]).length) ((todo_5 ++ [x2_.2]).flatMap encTx), blk b2 9 [(.string x2_.2)]]) (k' := (todo_5 ++ [x2_.2]).length) (xs' := (todo_5 ++ [x2_.2]).flatMap encTx) Try.underlying23 Try.type9 rfl rfl (bytes := 16) rfl rfl (Nat.succ_pos _) hS11 rfl (q := 0) rfl rfl rfl (blk_row (hS11.get (i := 1) rfl)) (ones rfl) hsm2 (by omega) (by first | rfl | exact List.length_append.symm | simp) (by simp [encTx]) (fun _ => rfl) ?_
      intro v15 w8 ho4 hS12
      have hS13 := hS12.drop 1 (ms' := [vec v15 9 1 ((todo_5 ++ [x2_.2]).length) ((todo_5 ++ [x2_.2]).flatMap encTx)]) rfl
      refine wpList_nil ?_
      refine ⟨rfl, (hS13.sublist (List.nil_sublist _)), wpJ_weak (J' := fun z => St ⟨w, σ, []⟩ z σ4 [vec v15 9 1 ((todo_5 ++ [x2_.2]).length) ((todo_5 ++ [x2_.2]).flatMap encTx)]) (fun w h => h.sublist (List.nil_sublist _)) _ _ _ _ ?_⟩
      refine dt 9 1023 (v := v15) (by kernel_rfl) rfl rfl (fun _ _ _ h => h) hS13 (fun _ _ _ hK => o_assign (v := v15) rfl ⟨rfl, hK⟩) (dz (by kernel_rfl) (blk_n (then_n (one_reg (o_move (v := (.int .i64 ((i_2 : Nat) : Int))) rfl (o_add (r := ((i_2 + 1 : Nat) : Int)) rfl rfl (nw (by omega) (by omega) (by have := hlen2; omega)) (o_assign (v := (.int .i64 ((i_2 + 1 : Nat) : Int))) rfl (wpList_nil (then_n ?_)))))))))
      obtain ⟨σ5, hS14, hsub4, hr16⟩ := hS13.peek (i := 0) rfl (notin0 _) encTx_len hsm2
      obtain ⟨a7, cap7, rfl⟩ := hr16.shape
      exact ⟨r2_, todo_5 ++ [x2_.2], i_2 + 1, _, rfl, hP, (.slice a6 r2_.length cap6), (.slice a7 (todo_5 ++ [x2_.2]).length cap7), σ5, _, (upd_in rfl (upd_in rfl (upd_in rfl (upd_in rfl (upd_in rfl rfl))))), hS14, (Sub.trans (Sub.trans hsub3 hg2.sub) hsub4), (RSl.menc hsub4 hr15), hr16⟩
    ·
     replace hP := hP.1 ht3
     refine wp_skip (blk_n (then_n (one_reg (o_move (v := (.int .i64 ((i_2 : Nat) : Int))) rfl (o_add (r := ((i_2 + 1 : Nat) : Int)) rfl rfl (nw (by omega) (by omega) (by have := hlen2; omega)) (o_assign (v := (.int .i64 ((i_2 + 1 : Nat) : Int))) rfl (wpList_nil (then_n ?_))))))))
     exact ⟨out_5, todo_5, i_2 + 1, _, rfl, hP, (.slice a4 out_5.length cap4), (.slice a5 todo_5.length cap5), σ3, _, (upd_in rfl (upd_in rfl (upd_in rfl (upd_in rfl (upd_in rfl rfl))))), hS6, hsub3, hr12, hr13⟩
   ·
    replace hP := hP.2 hb1
    refine o_move (v := (.bool false)) (congrArg Value.bool (decide_eq_false hb1)) (o_off rfl rfl (o_off rfl rfl (o_off rfl rfl (o_off rfl rfl (o_off rfl rfl (o_off rfl rfl (o_off rfl rfl (o_off rfl rfl (o_pick_f (v := (.bool false)) rfl rfl (wpList_nil (then_n (if_f rfl (wp_skip (blk_n (then_n (one_reg (o_move (v := (.int .i64 ((i_2 : Nat) : Int))) rfl (o_add (r := ((i_2 + 1 : Nat) : Int)) rfl rfl (nw (by omega) (by omega) (by have := hlen2; omega)) (o_assign (v := (.int .i64 ((i_2 + 1 : Nat) : Int))) rfl (wpList_nil (then_n ?_)))))))))))))))))))))
    exact ⟨out_5, todo_5, i_2 + 1, _, rfl, hP, (.slice a4 out_5.length cap4), (.slice a5 todo_5.length cap5), σ3, _, (upd_in rfl (upd_in rfl (upd_in rfl (upd_in rfl (upd_in rfl rfl))))), hS5, hsub3, hr12, hr13⟩
  ·
   replace hP := hP.2 ht2
   refine wp_exit (then_e (then_e (blk_hit (blk_n (then_n ?_)))))
   exact ⟨out_5, todo_5, _, rfl, hP, (.slice a4 out_5.length cap4), (.slice a5 todo_5.length cap5), σ3, _, (upd_in rfl (upd_in rfl (upd_in rfl rfl))), hS5, (Sub.trans hsub1 hsub3), hr12, hr13⟩
 ·
  replace hP := hP.2 ht1
  refine wp_exit (then_e (then_e (blk_hit (then_n (seq_reg (o_move (v := (.slice a2 out_3.length cap2)) rfl (o_assign (v := (.slice a2 out_3.length cap2)) rfl (wpList_nil (then_n (wp_ret (ret1 rfl (show ev _ _ _ = (.slice a2 out_3.length cap2) from rfl) ?_)))))))))))
  exact ⟨out_3, (.slice a2 out_3.length cap2), σ1, rfl, hS4.done, hr5, hP⟩

set_option maxHeartbeats 2000000 in
theorem w_ref9_Cyclic {σ : Hv} {w : World} (nodes_p : (List ByteArray)) (edges_p : (List (ByteArray × ByteArray))) (v1 : Value) (v2 : Value) {K : (List ByteArray) → Prop} (hV : View σ w) (hr1 : RSl 1 (REnc encTx) σ v1 nodes_p) (hr2 : RSl 2 (REnc encEd) σ v2 edges_p) (hP : P_ref9_Cyclic nodes_p edges_p K) :
    Calls Try.prog 17 #[v1, v2] w (fun e w1 => ∃ (r1 : (List ByteArray)) (v3 : Value) (σ1 : Hv), e = .returned v3 ∧ Grow [] σ w σ1 w1 ∧ RSl 1 (REnc encTx) σ1 v3 r1 ∧ K r1) := by
 unfold P_ref9_Cyclic at hP
 obtain ⟨a1, cap1, rfl⟩ := hr1.shape
 obtain ⟨a2, cap2, rfl⟩ := hr2.shape
 refine enter Try.func17 rfl rfl rfl ?_
 have hS := St.start hV
 refine seq_reg (o_assign (v := (.slice none 0 0)) rfl (wpList_nil (then_n (seq_reg (o_assign (v := (.slice none 0 0)) rfl (wpList_nil (then_n (wp_seq (seq_reg (o_assign (v := (.int .i64 (0 : Int))) rfl (wpList_nil (then_n (wp_block ?_)))))))))))))
 refine lp_loop2 (fun out_3 i_3 f z => ∃ (v6 : Value) (σ1 : Hv) (g : Fr), f = (upd (upd (upd (upd g 0 (.slice a1 nodes_p.length cap1)) 1 (.slice a2 edges_p.length cap2)) 5 v6) 6 (.int .i64 ((i_3 : Nat) : Int))) ∧ St ⟨w, σ, []⟩ z σ1 [] ∧ Sub σ σ1 ∧ RSl 1 (REnc encTx) σ1 v6 out_3) hP ⟨(.slice none 0 0), σ, _, (upd_in rfl (upd_in rfl (upd_in rfl (upd_in rfl rfl)))), hS, (Sub.refl _), RSl.nil⟩ ?_
 clear hP
 rintro out_3 i_3 Y1 hP f w1 ⟨v6, σ1, g, rfl, hS1, hsub1, hr5⟩
 obtain ⟨a3, cap3, rfl⟩ := hr5.shape
 refine wp_seq (seq_reg (o_move (v := (.int .i64 ((i_3 : Nat) : Int))) rfl (o_move (v := (.slice a1 nodes_p.length cap1)) rfl (o_len_slice rfl Try.underlying23 ?_))))
 have hlen1 := RSl.len63 hr1
 replace hP := hP hlen1
 refine o_lss (r := (decide (((i_3 : Nat) : Int) < ((nodes_p.length : Nat) : Int)))) rfl rfl rfl (wpList_nil (then_n ?_))
 refine if_d (((i_3 : Nat) : Int) < ((nodes_p.length : Nat) : Int)) rfl (fun ht1 => ?_) (fun ht1 => ?_)
 ·
  replace hP := hP.1 ht1
  refine wp_skip (then_n (wp_seq (wp_block (wp_seq (dr (fun z => St ⟨w, σ, []⟩ z σ1 []) (by kernel_rfl) rfl ?_)))))
  have hS2 := hS1.drew
  refine dt 0 1 (v := (.slice a2 edges_p.length cap2)) (by kernel_rfl) rfl rfl (fun _ _ _ h => h) hS2 (fun _ _ _ hK => o_move (v := (.slice a2 edges_p.length cap2)) rfl ⟨rfl, hK⟩) (dt 1 3 (v := (.slice a1 nodes_p.length cap1)) (by kernel_rfl) rfl rfl (fun _ _ _ h => h) hS2 (fun _ _ _ hK => o_move (v := (.slice a1 nodes_p.length cap1)) rfl ⟨rfl, hK⟩) (dt 2 7 (v := (.int .i64 ((i_3 : Nat) : Int))) (by kernel_rfl) rfl rfl (fun _ _ _ h => h) hS2 (fun _ _ _ hK => o_move (v := (.int .i64 ((i_3 : Nat) : Int))) rfl ⟨rfl, hK⟩) ?_))
  obtain ⟨x1_, hx1⟩ := getq (l := nodes_p) (k := i_3) (by have := ht1; omega)
  replace hP := hP x1_ hx1
  obtain ⟨ad1, cs1, ha1, hl2, hr6, hR1, hlt1⟩ := RSl.at hr1 hx1
  cases hR1
  refine dt 3 15 (v := (.pointer (some (ad1.add (i_3 * 1))))) (by kernel_rfl) rfl rfl (fun _ _ _ h => h) hS2 (fun _ _ _ hK => o_iaddr_slice (k := i_3) (a' := (ad1.add (i_3 * 1))) (congrArg (fun z => Value.slice z _ _) ha1) rfl rfl hlt1 Try.underlying23 Try.sizeOf9 rfl ⟨rfl, hK⟩) (dt 4 31 (v := (.string x1_)) (by kernel_rfl) rfl rfl (fun _ _ _ h => h) hS2 (fun _ hJ _ hK => o_load (v := (.string x1_)) rfl Try.isAgg9 (hr6.cell (View.of hsub1 hJ.view) 0 rfl rfl) ⟨rfl, hK⟩) (dt 6 95 (v := (.slice a1 nodes_p.length cap1)) (by kernel_rfl) rfl rfl (fun _ _ _ h => h) hS2 (fun _ _ _ hK => o_move (v := (.slice a1 nodes_p.length cap1)) rfl ⟨rfl, hK⟩) (dt 7 223 (v := (.int .i64 ((i_3 : Nat) : Int))) (by kernel_rfl) rfl rfl (fun _ _ _ h => h) hS2 (fun _ _ _ hK => o_move (v := (.int .i64 ((i_3 : Nat) : Int))) rfl ⟨rfl, hK⟩) (dt 8 479 (v := (.pointer (some (ad1.add (i_3 * 1))))) (by kernel_rfl) rfl rfl (fun _ _ _ h => h) hS2 (fun _ _ _ hK => o_iaddr_slice (k := i_3) (a' := (ad1.add (i_3 * 1))) (congrArg (fun z => Value.slice z _ _) ha1) rfl rfl hlt1 Try.underlying23 Try.sizeOf9 rfl ⟨rfl, hK⟩) (dt 9 991 (v := (.string x1_)) (by kernel_rfl) rfl rfl (fun _ _ _ h => h) hS2 (fun _ hJ _ hK => o_load (v := (.string x1_)) rfl Try.isAgg9 (hr6.cell (View.of hsub1 hJ.view) 0 rfl rfl) ⟨rfl, hK⟩) (d1 5 1023 (by kernel_rfl) rfl ?_))))))
  obtain ⟨Y2, hK1, hc1⟩ := hP
  refine o_call (args := [(.slice a2 edges_p.length cap2), (.string x1_)]) rfl Try.call16 (Calls.mono (w_ref9_Needs edges_p x1_ (.slice a2 edges_p.length cap2) hS2.view (RSl.menc hsub1 hr2) hc1) ?_)
  rintro _ w2 ⟨r1_, v7, σ2, rfl, hg1, hr7, hY1⟩
  refine ⟨_, rfl, ?_⟩
  have hS3 := hS2.grow hg1
  replace hP := hK1 r1_ hY1
  obtain ⟨a4, cap4, rfl⟩ := hr7.shape
  refine wpList_nil ?_
  refine ⟨rfl, (hS3.less hS2 hg1.sub), wpJ_weak (J' := fun z => St ⟨w, σ, []⟩ z σ2 []) (fun w h => (h.less hS2 hg1.sub).sublist (List.nil_sublist _)) _ _ _ _ ?_⟩
  refine d1 10 2047 (by kernel_rfl) rfl ?_
  obtain ⟨Y3, hK2, hc2⟩ := hP
  refine o_call (args := [(.slice a4 r1_.length cap4), (.string x1_)]) rfl Try.call13 (Calls.mono (w_ref1_Has r1_ x1_ (.slice a4 r1_.length cap4) hS3.view hr7 hc2) ?_)
  rintro _ w3 ⟨r2_, rfl, hg2, hY2⟩
  refine ⟨_, rfl, ?_⟩
  have hS4 := hS3.grow hg2
  replace hP := hK2 r2_ hY2
  refine wpList_nil ?_
  refine ⟨rfl, hS4, ?_⟩
  refine dz (by kernel_rfl) (then_n ?_)
  refine if_b rfl (fun ht2 => ?_) (fun ht2 => ?_)
  ·
   replace hP := hP.1 ht2
   refine one_reg (o_move (v := (.slice a3 out_3.length cap3)) rfl (o_move (v := (.slice a1 nodes_p.length cap1)) rfl (o_move (v := (.int .i64 ((i_3 : Nat) : Int))) rfl (o_iaddr_slice (k := i_3) (a' := (ad1.add (i_3 * 1))) (congrArg (fun z => Value.slice z _ _) ha1) rfl rfl hlt1 Try.underlying23 Try.sizeOf9 rfl (o_load (v := (.string x1_)) rfl Try.isAgg9 (hr6.cell (View.of (Sub.trans hsub1 hg1.sub) hS4.view) 0 rfl rfl) ?_)))))
   obtain ⟨Y4, hK3, hc3⟩ := hP
   refine o_call (args := [(.slice a3 out_3.length cap3), (.string x1_)]) rfl Try.call36 (Calls.mono (w_ref1_Add out_3 x1_ (.slice a3 out_3.length cap3) hS4.view (RSl.menc hg1.sub hr5) hc3) ?_)
   rintro _ w4 ⟨r3_, v8, σ3, rfl, hg3, hr8, hY3⟩
   refine ⟨_, rfl, ?_⟩
   have hS5 := hS4.grow hg3
   replace hP := hK3 r3_ hY3
   obtain ⟨a5, cap5, rfl⟩ := hr8.shape
   refine o_assign (v := (.slice a5 r3_.length cap5)) rfl (wpList_nil (blk_n (then_n (one_reg (o_move (v := (.int .i64 ((i_3 : Nat) : Int))) rfl (o_add (r := ((i_3 + 1 : Nat) : Int)) rfl rfl (nw (by omega) (by omega) (by have := hlen1; omega)) (o_assign (v := (.int .i64 ((i_3 + 1 : Nat) : Int))) rfl (wpList_nil (then_n ?_)))))))))
   exact ⟨r3_, i_3 + 1, _, rfl, hP, (.slice a5 r3_.length cap5), σ3, _, (upd_in rfl (upd_in rfl (upd_in rfl (upd_in rfl rfl)))), hS5, (Sub.trans (Sub.trans hsub1 hg1.sub) hg3.sub), hr8⟩
  ·
   replace hP := hP.2 (by first | (rw [ht2]; exact Bool.false_ne_true) | simp [ht2])
   refine wp_skip (blk_n (then_n (one_reg (o_move (v := (.int .i64 ((i_3 : Nat) : Int))) rfl (o_add (r := ((i_3 + 1 : Nat) : Int)) rfl rfl (nw (by omega) (by omega) (by have := hlen1; omega)) (o_assign (v := (.int .i64 ((i_3 + 1 : Nat) : Int))) rfl (wpList_nil (then_n ?_))))))))
   exact ⟨out_3, i_3 + 1, _, rfl, hP, (.slice a3 out_3.length cap3), σ2, _, (upd_in rfl (upd_in rfl (upd_in rfl (upd_in rfl rfl)))), hS4, (Sub.trans hsub1 hg1.sub), (RSl.menc hg1.sub hr5)⟩
 ·
  replace hP := hP.2 ht1
  refine wp_exit (then_e (then_e (blk_hit (then_n (seq_reg (o_move (v := (.slice a3 out_3.length cap3)) rfl (o_assign (v := (.slice a3 out_3.length cap3)) rfl (wpList_nil (then_n (wp_ret (ret1 rfl (show ev _ _ _ = (.slice a3 out_3.length cap3) from rfl) ?_)))))))))))
  exact ⟨out_3, (.slice a3 out_3.length cap3), σ1, rfl, hS1.done, hr5, hP⟩

set_option maxHeartbeats 2000000 in
theorem w_slices_Clone___string_string_ {σ : Hv} {w : World} (s_p : (List ByteArray)) (v1 : Value) {K : (List ByteArray) → Prop} (hV : View σ w) (hr1 : RSl 1 (REnc encTx) σ v1 s_p) (hP : P_slices_Clone___string_string_ s_p K) :
    Calls Try.prog 25 #[v1] w (fun e w1 => ∃ (r1 : (List ByteArray)) (v2 : Value), e = .returned v2 ∧ Grow [] σ w σ w1 ∧ Sml r1.length ∧ ((vec v2 9 1 r1.length ((r1).flatMap encTx)).ok w1 ∧ ∀ k, (vec v2 9 1 r1.length ((r1).flatMap encTx)).foot = some k → w.heap.size ≤ k ∧ σ k = none) ∧ K r1) := by
 unfold P_slices_Clone___string_string_ at hP
 obtain ⟨a1, cap1, rfl⟩ := hr1.shape
 refine enter Try.func25 rfl rfl rfl ?_
 have hS := St.start hV
 refine seq_reg (o_assign (v := (.slice none 0 0)) rfl (wpList_nil (then_n (wp_seq (seq_reg (o_move (v := (.slice a1 s_p.length cap1)) rfl ?_))))))
 replace hP := hP a1.isNone (RSl.isNil hr1)
 obtain ⟨r1_, hn1⟩ : ∃ r : Bool, a1.isNone = r := ⟨_, rfl⟩
 rw [hn1] at hP
 refine o_eqlnil Try.underlying23 rfl hn1 (wpList_nil (then_n ?_))
 refine if_b rfl (fun ht1 => ?_) (fun ht1 => ?_)
 ·
  replace hP := hP.1 ht1
  refine seq_reg (o_assign (v := (.slice none 0 0)) rfl (wpList_nil (then_n (wp_ret (then_r (ret1 rfl (show ev _ _ _ = (.slice none 0 0) from rfl) ?_))))))
  have hS1 := hS.addNil 9 1
  exact ⟨[], (.slice none 0 0), rfl, hS1.done.forget, (by simp [Sml]), hS1.own0 (i := 0) rfl, hP⟩
 ·
  replace hP := hP.2 (by first | (rw [ht1]; exact Bool.false_ne_true) | simp [ht1])
  refine wp_skip (then_n (seq_reg (o_bslice (cs := []) (e := 9) hS (fun _ => by kernel_rfl) ?_)))
  intro b1 w1 hS2
  refine o_move (v := (.slice a1 s_p.length cap1)) rfl ?_
  have hS3 := hS2.asVec (i := 0) (ms' := [vec (.slice (some ⟨b1, 0, none⟩) 0 0) 9 1 0 []]) (size := 1) rfl rfl (by unfold maxLen; omega) rfl
  obtain ⟨hsm1, hP⟩ := hP
  refine o_appR (enc := encTx) (l := s_p) (Ms := fun v3 => [vec v3 9 1 s_p.length ((s_p).flatMap encTx)]) (k' := s_p.length) (xs' := (s_p).flatMap encTx) Try.underlying23 Try.type9 rfl rfl (bytes := 16) rfl rfl (Nat.succ_pos _) hS3 rfl (q := 0) rfl rfl hr1 hS3.view encTx_len encTx_one hsm1 (by omega) (by first | rfl | exact List.length_append.symm | simp) (List.nil_append _) (fun _ => rfl) ?_
  intro v3 w2 ho1 hS4
  refine o_assign (v := v3) rfl (wpList_nil (then_n (wp_ret (ret1 rfl (show ev _ _ _ = v3 from rfl) ?_))))
  exact ⟨s_p, v3, rfl, hS4.done.forget, hsm1, hS4.own0 (i := 0) rfl, hP⟩

set_option maxHeartbeats 2000000 in
theorem w_slices_Index___string_string_ {σ : Hv} {w : World} (s_p : (List ByteArray)) (v_p : ByteArray) (v1 : Value) {K : Int → Prop} (hV : View σ w) (hr1 : RSl 1 (REnc encTx) σ v1 s_p) (hP : P_slices_Index___string_string_ s_p v_p K) :
    Calls Try.prog 39 #[v1, (.string v_p)] w (fun e w1 => ∃ (r1 : Int), e = .returned (.int .i64 r1) ∧ Grow [] σ w σ w1 ∧ K r1) := by
 unfold P_slices_Index___string_string_ at hP
 obtain ⟨a1, cap1, rfl⟩ := hr1.shape
 refine enter Try.func39 rfl rfl rfl ?_
 have hS := St.start hV
 refine seq_reg (o_assign (v := (.int .i64 (0 : Int))) rfl (wpList_nil (then_n (wp_seq (seq_reg (o_move (v := (.slice a1 s_p.length cap1)) rfl (o_len_slice rfl Try.underlying23 ?_)))))))
 have hlen1 := RSl.len63 hr1
 replace hP := hP hlen1
 refine o_move (v := (.int .i64 (0 : Int))) rfl (wpList_nil (then_n (wp_block ?_)))
 refine lp_loop1 (fun k_2 f z => ∃ (σ1 : Hv) (g : Fr), f = (upd (upd (upd (upd g 0 (.slice a1 s_p.length cap1)) 1 (.string v_p)) 7 (.int .i64 ((s_p.length : Nat) : Int))) 8 (.int .i64 ((k_2 : Nat) : Int))) ∧ St ⟨w, σ, []⟩ z σ1 [] ∧ Sub σ σ1) hP ⟨σ, _, (upd_in rfl (upd_in rfl (upd_in rfl (upd_in rfl rfl)))), hS, (Sub.refl _)⟩ ?_
 clear hP
 rintro k_2 Y1 hP f w1 ⟨σ1, g, rfl, hS1, hsub1⟩
 refine seq_reg (o_lss (r := (decide (((k_2 : Nat) : Int) < ((s_p.length : Nat) : Int)))) rfl rfl rfl (wpList_nil (then_n (wp_seq ?_))))
 refine if_d (((k_2 : Nat) : Int) < ((s_p.length : Nat) : Int)) rfl (fun ht1 => ?_) (fun ht1 => ?_)
 ·
  replace hP := hP.1 ht1
  refine wp_skip (then_n (wp_seq (wp_block (seq_reg (o_move (v := (.int .i64 ((k_2 : Nat) : Int))) rfl (o_assign (v := (.int .i64 ((k_2 : Nat) : Int))) rfl (wpList_nil (then_n (seq_reg (o_move (v := (.string v_p)) rfl (o_move (v := (.slice a1 s_p.length cap1)) rfl (o_move (v := (.int .i64 ((k_2 : Nat) : Int))) rfl ?_))))))))))))
  obtain ⟨x1_, hx1⟩ := getq (l := s_p) (k := k_2) (by have := ht1; omega)
  replace hP := hP x1_ hx1
  obtain ⟨ad1, cs1, ha1, hl1, hr2, hR1, hlt1⟩ := RSl.at hr1 hx1
  cases hR1
  refine o_iaddr_slice (k := k_2) (a' := (ad1.add (k_2 * 1))) (congrArg (fun z => Value.slice z _ _) ha1) rfl rfl hlt1 Try.underlying23 Try.sizeOf9 rfl (o_load (v := (.string x1_)) rfl Try.isAgg9 (hr2.cell (View.of hsub1 hS1.view) 0 rfl rfl) (o_eqls (r := (decide (v_p = x1_))) rfl rfl rfl (wpList_nil (then_n ?_))))
  refine if_d (v_p = x1_) rfl (fun ht2 => ?_) (fun ht2 => ?_)
  ·
   replace hP := hP.1 ht2
   refine seq_reg (o_move (v := (.int .i64 ((k_2 : Nat) : Int))) rfl (o_assign (v := (.int .i64 ((k_2 : Nat) : Int))) rfl (wpList_nil (then_n (wp_ret (blk_r (then_r (then_r (blk_r (then_r (ret1 rfl (show ev _ _ _ = (.int .i64 ((k_2 : Nat) : Int)) from rfl) ?_)))))))))))
   exact ⟨((k_2 : Nat) : Int), rfl, hS1.done.forget, hP⟩
  ·
   replace hP := hP.2 ht2
   refine wp_skip (blk_n (then_n (one_reg (o_add (r := ((k_2 + 1 : Nat) : Int)) rfl rfl (nw (by omega) (by omega) (by have := hlen1; omega)) (o_move (v := (.int .i64 ((k_2 + 1 : Nat) : Int))) rfl (wpList_nil (then_n ?_)))))))
   exact ⟨k_2 + 1, _, rfl, hP, σ1, _, (upd_in rfl (upd_in rfl (upd_in rfl (upd_in rfl rfl)))), hS1, hsub1⟩
 ·
  replace hP := hP.2 ht1
  refine wp_exit (then_e (then_e (blk_hit (then_n (seq_reg (o_assign (v := (.int .i64 (-1 : Int))) rfl (wpList_nil (then_n (wp_ret (ret1 rfl (show ev _ _ _ = (.int .i64 (-1 : Int)) from rfl) ?_))))))))))
  exact ⟨(-1 : Int), rfl, hS1.done.forget, hP⟩

set_option maxHeartbeats 2000000 in
theorem w_slices_Contains___string_string_ {σ : Hv} {w : World} (s_p : (List ByteArray)) (v_p : ByteArray) (v1 : Value) {K : Bool → Prop} (hV : View σ w) (hr1 : RSl 1 (REnc encTx) σ v1 s_p) (hP : P_slices_Contains___string_string_ s_p v_p K) :
    Calls Try.prog 26 #[v1, (.string v_p)] w (fun e w1 => ∃ (r1 : Bool), e = .returned (.bool (r1)) ∧ Grow [] σ w σ w1 ∧ K r1) := by
 unfold P_slices_Contains___string_string_ at hP
 obtain ⟨a1, cap1, rfl⟩ := hr1.shape
 refine enter Try.func26 rfl rfl rfl ?_
 have hS := St.start hV
 refine seq_reg (o_assign (v := (.bool false)) rfl (wpList_nil (then_n (seq_reg (o_move (v := (.slice a1 s_p.length cap1)) rfl (o_move (v := (.string v_p)) rfl ?_))))))
 obtain ⟨Y1, hK1, hc1⟩ := hP
 refine o_call (args := [(.slice a1 s_p.length cap1), (.string v_p)]) rfl Try.call39 (Calls.mono (w_slices_Index___string_string_ s_p v_p (.slice a1 s_p.length cap1) hS.view hr1 hc1) ?_)
 rintro _ w1 ⟨r1_, rfl, hg1, hY1⟩
 refine ⟨_, rfl, ?_⟩
 have hS1 := hS.grow hg1
 replace hP := hK1 r1_ hY1
 refine o_geq (r := (decide ((0 : Int) ≤ r1_))) rfl rfl rfl (o_assign (v := (.bool (decide ((0 : Int) ≤ r1_)))) rfl (wpList_nil (then_n (wp_ret (ret1 rfl (show ev _ _ _ = (.bool (decide ((0 : Int) ≤ r1_))) from rfl) ?_)))))
 exact ⟨(decide ((0 : Int) ≤ r1_)), rfl, hS1.done.forget, hP⟩

end Go.Proofs.Ytegcjfidfinogaa
