/- A call does what its plain meaning says, and leaves the memory that was there as it was: ref26_Root, ref26_Same, ref26_Forest, law26_awake. -/
import Derived.Test.YtehmnkholidanaaRows
import Derived.Test.YtehmnkholidanaaFlLift
import Derived.Test.YtehmnkholidanaaPuB
import Derived.KernelRfl
import Derived.Test.YtehmnkholidanaaLwA
import Derived.Test.YtehmnkholidanaaW
namespace Go.Proofs.Ytehmnkholidanaa
open Go Go.RowKit Go.Fl
set_option maxHeartbeats 2000000 in
theorem w_ref26_Root {σ : Hv} {w : World} (l_p : (List Lk.L3)) (id_p : ByteArray) (v1 : Value) {K : ByteArray → Prop} (hV : View σ w) (hr1 : RSl 3 (REnc encLk) σ v1 l_p) (hP : P_ref26_Root l_p id_p K) :
    Calls Try.prog 25 #[v1, (.string id_p)] w (fun e w1 => ∃ (r1 : ByteArray), e = .returned (.string r1) ∧ Grow [] σ w σ w1 ∧ K r1) := by
  unfold P_ref26_Root at hP
  obtain ⟨a1, cap1, rfl⟩ := hr1.shape
  refine enter Try.func25 rfl rfl rfl ?_
  have hS := St.start hV
  refine seq_reg ?_
  refine o_assign (v := (.string (⟨#[]⟩ : ByteArray))) rfl ?_
  refine wpList_nil ?_
  refine then_n ?_
  refine seq_reg ?_
  refine o_move (v := (.slice a1 l_p.length cap1)) rfl ?_
  refine o_move (v := (.string id_p)) rfl ?_
  obtain ⟨Y1, hK1, hc1⟩ := hP
  refine o_call (args := [(.slice a1 l_p.length cap1), (.string id_p)]) rfl Try.call24 (Calls.mono (w_ref26_Members l_p id_p (.slice a1 l_p.length cap1) hS.view hr1 hc1) ?_)
  rintro _ w1 ⟨r1_, v2, σ1, rfl, hg1, hr2, hY1⟩
  refine ⟨_, rfl, ?_⟩
  have hS1 := hS.grow hg1
  replace hP := hK1 r1_ hY1
  obtain ⟨a2, cap2, rfl⟩ := hr2.shape
  obtain ⟨x1_, hx1, hP⟩ := hP
  obtain ⟨ad1, cs1, ha1, hl1, hr3, hR1, hlt1⟩ := RSl.at hr2 hx1
  cases hR1
  refine o_iaddr_slice (k := 0) (a' := (ad1.add (0 * 1))) (congrArg (fun z => Value.slice z _ _) ha1) rfl rfl hlt1 Try.underlying29 Try.sizeOf9 rfl ?_
  refine o_load (v := (.string x1_)) rfl Try.isAgg9 (hr3.cell hS1.view 0 rfl rfl) ?_
  refine o_assign (v := (.string x1_)) rfl ?_
  refine wpList_nil ?_
  refine then_n ?_
  refine wp_ret ?_
  refine ret1 rfl (show ev _ _ _ = (.string x1_) from rfl) ?_
  exact ⟨x1_, rfl, hS1.done.forget, hP⟩

set_option maxHeartbeats 2000000 in
theorem w_ref26_Same {σ : Hv} {w : World} (l_p : (List Lk.L3)) (a_p : ByteArray) (b_p : ByteArray) (v1 : Value) {K : Bool → Prop} (hV : View σ w) (hr1 : RSl 3 (REnc encLk) σ v1 l_p) (hP : P_ref26_Same l_p a_p b_p K) :
    Calls Try.prog 40 #[v1, (.string a_p), (.string b_p)] w (fun e w1 => ∃ (r1 : Bool), e = .returned (.bool (r1)) ∧ Grow [] σ w σ w1 ∧ K r1) := by
  unfold P_ref26_Same at hP
  obtain ⟨a1, cap1, rfl⟩ := hr1.shape
  refine enter Try.func40 rfl rfl rfl ?_
  have hS := St.start hV
  refine seq_reg ?_
  refine o_assign (v := (.bool false)) rfl ?_
  refine wpList_nil ?_
  refine then_n ?_
  refine seq_reg ?_
  refine o_move (v := (.slice a1 l_p.length cap1)) rfl ?_
  refine o_move (v := (.string a_p)) rfl ?_
  obtain ⟨Y1, hK1, hc1⟩ := hP
  refine o_call (args := [(.slice a1 l_p.length cap1), (.string a_p)]) rfl Try.call24 (Calls.mono (w_ref26_Members l_p a_p (.slice a1 l_p.length cap1) hS.view hr1 hc1) ?_)
  rintro _ w1 ⟨r1_, v2, σ1, rfl, hg1, hr2, hY1⟩
  refine ⟨_, rfl, ?_⟩
  have hS1 := hS.grow hg1
  replace hP := hK1 r1_ hY1
  obtain ⟨a2, cap2, rfl⟩ := hr2.shape
  refine o_move (v := (.string b_p)) rfl ?_
  obtain ⟨Y2, hK2, hc2⟩ := hP
  refine o_call (args := [(.slice a2 r1_.length cap2), (.string b_p)]) rfl Try.call17 (Calls.mono (w_ref1_Has r1_ b_p (.slice a2 r1_.length cap2) hS1.view hr2 hc2) ?_)
  rintro _ w2 ⟨r2_, rfl, hg2, hY2⟩
  refine ⟨_, rfl, ?_⟩
  have hS2 := hS1.grow hg2
  replace hP := hK2 r2_ hY2
  refine o_assign (v := (.bool (r2_))) rfl ?_
  refine wpList_nil ?_
  refine then_n ?_
  refine wp_ret ?_
  refine ret1 rfl (show ev _ _ _ = (.bool (r2_)) from rfl) ?_
  exact ⟨(r2_), rfl, hS2.done.forget, hP⟩

set_option maxHeartbeats 2000000 in
theorem w_ref26_Forest {σ : Hv} {w : World} (l_p : (List Lk.L3)) (v1 : Value) {K : (List Lk.L3) → Prop} (hV : View σ w) (hr1 : RSl 3 (REnc encLk) σ v1 l_p) (hP : P_ref26_Forest l_p K) :
    Calls Try.prog 28 #[v1] w (fun e w1 => ∃ (r1 : (List Lk.L3)) (v2 : Value), e = .returned v2 ∧ Grow [] σ w σ w1 ∧ Sml r1.length ∧ ((vec v2 28 3 r1.length ((r1).flatMap encLk)).ok w1 ∧ ∀ k, (vec v2 28 3 r1.length ((r1).flatMap encLk)).foot = some k → w.heap.size ≤ k ∧ σ k = none) ∧ K r1) := by
  unfold P_ref26_Forest at hP
  obtain ⟨a1, cap1, rfl⟩ := hr1.shape
  refine enter Try.func28 rfl rfl rfl ?_
  have hS := St.start hV
  refine seq_reg ?_
  refine o_assign (v := (.slice none 0 0)) rfl ?_
  refine wpList_nil ?_
  refine then_n ?_
  refine seq_reg ?_
  refine o_assign (v := (.slice none 0 0)) rfl ?_
  refine wpList_nil ?_
  refine then_n ?_
  refine wp_seq ?_
  refine seq_reg ?_
  refine o_assign (v := (.int .i64 (0 : Int))) rfl ?_
  refine wpList_nil ?_
  refine then_n ?_
  refine wp_block ?_
  have hS1 := hS.addNil 28 3
  refine lp_loop2 (fun out_2 i_2 f z => ∃ (v4 : Value) (σ1 : Hv) (g : Fr), f = (upd (upd (upd g 0 (.slice a1 l_p.length cap1)) 3 v4) 4 (.int .i64 ((i_2 : Nat) : Int))) ∧ St ⟨w, σ, []⟩ z σ1 [vec v4 28 3 out_2.length ((out_2).flatMap encLk)] ∧ Sub σ σ1 ∧ v4.oneCell' = true ∧ Sml out_2.length) hP ⟨(.slice none 0 0), σ, _, (upd_in rfl (upd_in rfl (upd_in rfl rfl))), hS1, (Sub.refl _), rfl, (by simp [Sml])⟩ ?_
  clear hP
  rintro out_2 i_2 Y1 hP f w1 ⟨v4, σ1, g, rfl, hS2, hsub1, ho2, hl2⟩
  refine wp_seq ?_
  refine seq_reg ?_
  refine o_move (v := (.int .i64 ((i_2 : Nat) : Int))) rfl ?_
  refine o_move (v := (.slice a1 l_p.length cap1)) rfl ?_
  refine o_len_slice rfl Try.underlying24 ?_
  have hlen1 := RSl.len63 hr1
  replace hP := hP hlen1
  refine o_lss (r := (decide (((i_2 : Nat) : Int) < ((l_p.length : Nat) : Int)))) rfl rfl rfl ?_
  refine wpList_nil ?_
  refine then_n ?_
  refine if_d (((i_2 : Nat) : Int) < ((l_p.length : Nat) : Int)) rfl (fun ht1 => ?_) (fun ht1 => ?_)
  · replace hP := hP.1 ht1
    refine wp_skip ?_
    refine then_n ?_
    refine wp_seq ?_
    refine wp_block ?_
    refine wp_seq ?_
    refine d_reg (fun z => St ⟨w, σ, []⟩ z σ1 [vec v4 28 3 out_2.length ((out_2).flatMap encLk)]) (by kernel_rfl) rfl rfl ?_
    have hS3 := hS2.drew
    refine d_take (i := 0) (v := v4) (l' := #[true, false, false, false, false, false, false, false, false, false, false, false, false]) rfl (by kernel_rfl) (by kernel_rfl) (by kernel_rfl) rfl rfl (fun _ _ _ h => h) hS3 (fun w hJ K hK => ?_) ?_
    · refine o_move (v := v4) rfl ?_
      exact ⟨rfl, hK⟩
    refine d_take (i := 1) (v := (.slice a1 l_p.length cap1)) (l' := #[true, true, false, false, false, false, false, false, false, false, false, false, false]) rfl (by kernel_rfl) (by kernel_rfl) (by kernel_rfl) rfl rfl (fun _ _ _ h => h) hS3 (fun w hJ K hK => ?_) ?_
    · refine o_move (v := (.slice a1 l_p.length cap1)) rfl ?_
      exact ⟨rfl, hK⟩
    refine d_take (i := 2) (v := (.int .i64 ((i_2 : Nat) : Int))) (l' := #[true, true, true, false, false, false, false, false, false, false, false, false, false]) rfl (by kernel_rfl) (by kernel_rfl) (by kernel_rfl) rfl rfl (fun _ _ _ h => h) hS3 (fun w hJ K hK => ?_) ?_
    · refine o_move (v := (.int .i64 ((i_2 : Nat) : Int))) rfl ?_
      exact ⟨rfl, hK⟩
    obtain ⟨x1_, hx1⟩ := getq (l := l_p) (k := i_2) (by have := ht1; omega)
    replace hP := hP x1_ hx1
    obtain ⟨ad1, cs1, ha1, hl3, hr3, hR1, hlt1⟩ := RSl.at hr1 hx1
    cases hR1
    refine d_take (i := 3) (v := (.pointer (some (ad1.add (i_2 * 3))))) (l' := #[true, true, true, true, false, false, false, false, false, false, false, false, false]) rfl (by kernel_rfl) (by kernel_rfl) (by kernel_rfl) rfl rfl (fun _ _ _ h => h) hS3 (fun w hJ K hK => ?_) ?_
    · refine o_iaddr_slice (k := i_2) (a' := (ad1.add (i_2 * 3))) (congrArg (fun z => Value.slice z _ _) ha1) rfl rfl hlt1 Try.underlying24 Try.sizeOf28 rfl ?_
      exact ⟨rfl, hK⟩
    refine d_take (i := 4) (v := (.pointer (some (((ad1.add (i_2 * 3))).add 0)))) (l' := #[true, true, true, true, true, false, false, false, false, false, false, false, false]) rfl (by kernel_rfl) (by kernel_rfl) (by kernel_rfl) rfl rfl (fun _ _ _ h => h) hS3 (fun w hJ K hK => ?_) ?_
    · refine o_faddr (a' := (((ad1.add (i_2 * 3))).add 0)) rfl Try.underlying28 rfl Try.sizeOf9 rfl ?_
      exact ⟨rfl, hK⟩
    refine d_take (i := 5) (v := (.string x1_.1)) (l' := #[true, true, true, true, true, true, false, false, false, false, false, false, false]) rfl (by kernel_rfl) (by kernel_rfl) (by kernel_rfl) rfl rfl (fun _ _ _ h => h) hS3 (fun w hJ K hK => ?_) ?_
    · refine o_load (v := (.string x1_.1)) rfl Try.isAgg9 (hr3.cell (View.of hsub1 hJ.view) 0 rfl rfl) ?_
      exact ⟨rfl, hK⟩
    refine d_take (i := 6) (v := (.slice a1 l_p.length cap1)) (l' := #[true, true, true, true, true, true, true, false, false, false, false, false, false]) rfl (by kernel_rfl) (by kernel_rfl) (by kernel_rfl) rfl rfl (fun _ _ _ h => h) hS3 (fun w hJ K hK => ?_) ?_
    · refine o_move (v := (.slice a1 l_p.length cap1)) rfl ?_
      exact ⟨rfl, hK⟩
    refine d_take (i := 7) (v := (.int .i64 ((i_2 : Nat) : Int))) (l' := #[true, true, true, true, true, true, true, true, false, false, false, false, false]) rfl (by kernel_rfl) (by kernel_rfl) (by kernel_rfl) rfl rfl (fun _ _ _ h => h) hS3 (fun w hJ K hK => ?_) ?_
    · refine o_move (v := (.int .i64 ((i_2 : Nat) : Int))) rfl ?_
      exact ⟨rfl, hK⟩
    refine d_take (i := 8) (v := (.pointer (some (ad1.add (i_2 * 3))))) (l' := #[true, true, true, true, true, true, true, true, true, false, false, false, false]) rfl (by kernel_rfl) (by kernel_rfl) (by kernel_rfl) rfl rfl (fun _ _ _ h => h) hS3 (fun w hJ K hK => ?_) ?_
    · refine o_iaddr_slice (k := i_2) (a' := (ad1.add (i_2 * 3))) (congrArg (fun z => Value.slice z _ _) ha1) rfl rfl hlt1 Try.underlying24 Try.sizeOf28 rfl ?_
      exact ⟨rfl, hK⟩
    refine d_take (i := 9) (v := (.pointer (some (((ad1.add (i_2 * 3))).add 1)))) (l' := #[true, true, true, true, true, true, true, true, true, true, false, false, false]) rfl (by kernel_rfl) (by kernel_rfl) (by kernel_rfl) rfl rfl (fun _ _ _ h => h) hS3 (fun w hJ K hK => ?_) ?_
    · refine o_faddr (a' := (((ad1.add (i_2 * 3))).add 1)) rfl Try.underlying28 rfl Try.sizeOf9 rfl ?_
      exact ⟨rfl, hK⟩
    refine d_take (i := 10) (v := (.string x1_.2.1)) (l' := #[true, true, true, true, true, true, true, true, true, true, true, false, false]) rfl (by kernel_rfl) (by kernel_rfl) (by kernel_rfl) rfl rfl (fun _ _ _ h => h) hS3 (fun w hJ K hK => ?_) ?_
    · refine o_load (v := (.string x1_.2.1)) rfl Try.isAgg9 (hr3.cell (View.of hsub1 hJ.view) 1 rfl rfl) ?_
      exact ⟨rfl, hK⟩
    refine d_one (i := 11) (by kernel_rfl) rfl (l' := #[true, true, true, true, true, true, true, true, true, true, true, true, false]) rfl ?_
    obtain ⟨σ2, hS4, hsub2, hr4⟩ := hS3.peek (i := 0) rfl (notin0 _) encLk_len hl2
    obtain ⟨Y2, hK1, hc1⟩ := hP
    refine o_call (args := [v4, (.string x1_.1), (.string x1_.2.1)]) rfl Try.call40 (Calls.mono (w_ref26_Same out_2 x1_.1 x1_.2.1 v4 hS4.view hr4 hc1) ?_)
    rintro _ w2 ⟨r1_, rfl, hg1, hY1⟩
    refine ⟨_, rfl, ?_⟩
    have hg1b := hg1.back hsub2
    have hS5 := hS3.grow hg1b
    replace hP := hK1 r1_ hY1
    refine wpList_nil ?_
    refine ⟨rfl, hS5, ?_⟩
    refine d_take (i := 12) (v := (.bool (!r1_))) (l' := #[true, true, true, true, true, true, true, true, true, true, true, true, true]) rfl (by kernel_rfl) (by kernel_rfl) (by kernel_rfl) rfl rfl (fun _ _ _ h => h) hS5 (fun w hJ K hK => ?_) ?_
    · refine o_not (r := (!r1_)) rfl rfl ?_
      exact ⟨rfl, hK⟩
    refine d_done (by kernel_rfl) ?_
    refine then_n ?_
    refine if_nb rfl (fun ht2 => ?_) (fun ht2 => ?_)
    · replace hP := hP.2 (by simp [ht2])
      refine one_reg ?_
      refine o_move (v := v4) rfl ?_
      refine o_move (v := (.slice a1 l_p.length cap1)) rfl ?_
      refine o_move (v := (.int .i64 ((i_2 : Nat) : Int))) rfl ?_
      refine o_iaddr_slice (k := i_2) (a' := (ad1.add (i_2 * 3))) (congrArg (fun z => Value.slice z _ _) ha1) rfl rfl hlt1 Try.underlying24 Try.sizeOf28 rfl ?_
      refine o_loadA (cs := [(.string x1_.1), (.string x1_.2.1), (.int .i64 x1_.2.2)]) rfl Try.isAgg28 Try.sizeOf28 rfl (hr3.row (View.of hsub1 hS5.view)) ?_
      refine o_bslice (cs := [(.string x1_.1), (.string x1_.2.1), (.int .i64 x1_.2.2)]) (e := 28) hS5 (fun _ => by kernel_rfl) ?_
      intro b1 w3 hS6
      obtain ⟨hsm1, hP⟩ := hP
      refine o_app (Ms := fun v5 => [blk b1 28 [(.string x1_.1), (.string x1_.2.1), (.int .i64 x1_.2.2)], vec v5 28 3 ((out_2 ++ [x1_]).length) ((out_2 ++ [x1_]).flatMap encLk)]) (k' := (out_2 ++ [x1_]).length) (xs' := (out_2 ++ [x1_]).flatMap encLk) Try.underlying24 Try.type28 rfl rfl (bytes := 40) rfl rfl (Nat.succ_pos _) hS6 rfl (q := 1) rfl rfl rfl (blk_row (hS6.get (i := 0) rfl)) (ones rfl) hsm1 (by omega) (by first | rfl | simp) (by simp [encLk]) (fun _ => rfl) ?_
      intro v5 w4 ho3 hS7
      have hS8 := hS7.drop 0 (ms' := [vec v5 28 3 ((out_2 ++ [x1_]).length) ((out_2 ++ [x1_]).flatMap encLk)]) rfl
      refine o_assign (v := v5) rfl ?_
      refine wpList_nil ?_
      refine blk_n ?_
      refine then_n ?_
      refine one_reg ?_
      refine o_move (v := (.int .i64 ((i_2 : Nat) : Int))) rfl ?_
      refine o_add (r := ((i_2 + 1 : Nat) : Int)) rfl rfl (nw (by omega) (by omega) (by have := hlen1; omega)) ?_
      refine o_assign (v := (.int .i64 ((i_2 + 1 : Nat) : Int))) rfl ?_
      refine wpList_nil ?_
      refine then_n ?_
      exact ⟨out_2 ++ [x1_], i_2 + 1, _, rfl, hP, v5, σ1, _, (upd_in rfl (upd_in rfl (upd_in rfl rfl))), hS8, hsub1, ho3, hsm1⟩
    · replace hP := hP.1 ht2
      refine wp_skip ?_
      refine blk_n ?_
      refine then_n ?_
      refine one_reg ?_
      refine o_move (v := (.int .i64 ((i_2 : Nat) : Int))) rfl ?_
      refine o_add (r := ((i_2 + 1 : Nat) : Int)) rfl rfl (nw (by omega) (by omega) (by have := hlen1; omega)) ?_
      refine o_assign (v := (.int .i64 ((i_2 + 1 : Nat) : Int))) rfl ?_
      refine wpList_nil ?_
      refine then_n ?_
      exact ⟨out_2, i_2 + 1, _, rfl, hP, v4, σ1, _, (upd_in rfl (upd_in rfl (upd_in rfl rfl))), hS5, hsub1, ho2, hl2⟩
  · replace hP := hP.2 ht1
    refine wp_exit ?_
    refine then_e ?_
    refine then_e ?_
    refine blk_hit ?_
    refine then_n ?_
    refine seq_reg ?_
    refine o_move (v := v4) rfl ?_
    refine o_assign (v := v4) rfl ?_
    refine wpList_nil ?_
    refine then_n ?_
    refine wp_ret ?_
    refine ret1 rfl (show ev _ _ _ = v4 from rfl) ?_
    exact ⟨out_2, v4, rfl, hS2.done.forget, hl2, hS2.own0 (i := 0) rfl, hP⟩

set_option maxHeartbeats 2000000 in
theorem w_law26_awake {σ : Hv} {w : World} {K : Bool → Prop} (hV : View σ w) (hP : P_law26_awake  K) :
    Calls Try.prog 11 #[] w (fun e w1 => ∃ (r1 : Bool), e = .returned (.bool (r1)) ∧ Grow [] σ w σ w1 ∧ K r1) := by
  unfold P_law26_awake at hP
  refine enter Try.func11 rfl rfl rfl ?_
  have hS := St.start hV
  refine seq_reg ?_
  refine o_assign (v := (.bool false)) rfl ?_
  refine wpList_nil ?_
  refine then_n ?_
  refine seq_reg ?_
  refine o_build (v := (.agg #[(.string (⟨#[97]⟩ : ByteArray)), (.string (⟨#[98]⟩ : ByteArray)), (.int .i64 (0 : Int))])) (fun _ => by kernel_rfl) ?_
  refine o_build (v := (.agg #[(.string (⟨#[98]⟩ : ByteArray)), (.string (⟨#[99]⟩ : ByteArray)), (.int .i64 (0 : Int))])) (fun _ => by kernel_rfl) ?_
  refine o_bslice (cs := [(.string (⟨#[97]⟩ : ByteArray)), (.string (⟨#[98]⟩ : ByteArray)), (.int .i64 (0 : Int)), (.string (⟨#[98]⟩ : ByteArray)), (.string (⟨#[99]⟩ : ByteArray)), (.int .i64 (0 : Int))]) (e := 28) hS (fun _ => by kernel_rfl) ?_
  intro b1 w1 hS1
  refine o_assign (v := (.slice (some ⟨b1, 0, none⟩) 2 2)) rfl ?_
  refine wpList_nil ?_
  refine then_n ?_
  refine seq_reg ?_
  refine o_move (v := (.slice (some ⟨b1, 0, none⟩) 2 2)) rfl ?_
  have hS2 := hS1.asVec (i := 0) (ms' := [vec (.slice (some ⟨b1, 0, none⟩) 2 2) 28 3 2 (([((⟨#[97]⟩ : ByteArray), (⟨#[98]⟩ : ByteArray), (0 : Int)), ((⟨#[98]⟩ : ByteArray), (⟨#[99]⟩ : ByteArray), (0 : Int))]).flatMap encLk)]) (size := 3) rfl rfl (by unfold maxLen; omega) rfl
  obtain ⟨σ1, hS3, hsub1, hr1⟩ := hS2.peek (i := 0) rfl (notin0 _) encLk_len (by simp [Sml])
  obtain ⟨Y1, hK1, hc1⟩ := hP
  refine o_call (args := [(.slice (some ⟨b1, 0, none⟩) 2 2), (.string (⟨#[97]⟩ : ByteArray)), (.string (⟨#[99]⟩ : ByteArray))]) rfl Try.call16 (Calls.mono (w_identity_Path ([((⟨#[97]⟩ : ByteArray), (⟨#[98]⟩ : ByteArray), (0 : Int)), ((⟨#[98]⟩ : ByteArray), (⟨#[99]⟩ : ByteArray), (0 : Int))]) (⟨#[97]⟩ : ByteArray) (⟨#[99]⟩ : ByteArray) (.slice (some ⟨b1, 0, none⟩) 2 2) hS3.view hr1 hc1) ?_)
  rintro _ w2 ⟨r1_, r2_, v1, rfl, hg1, hl1, ho1, hY1⟩
  refine ⟨_, rfl, ?_⟩
  have hg1b := hg1.back hsub1
  have hS4 := hS1.growAdd hg1b (o := vec v1 28 3 r1_.length ((r1_).flatMap encLk)) (fresh_back ho1 hsub1)
  replace hP := hK1 r1_ r2_ hY1
  refine o_move (v := (.tuple #[v1, (.bool (r2_))])) rfl ?_
  refine o_extract (v := v1) rfl rfl ?_
  refine o_extract (v := (.bool (r2_))) rfl rfl ?_
  refine o_assign (v := v1) rfl ?_
  refine o_assign (v := (.bool (r2_))) rfl ?_
  refine wpList_nil ?_
  refine then_n ?_
  refine seq_reg ?_
  refine o_move (v := (.slice (some ⟨b1, 0, none⟩) 2 2)) rfl ?_
  have hS5 := hS4.asVec (i := 1) (ms' := [vec v1 28 3 r1_.length ((r1_).flatMap encLk), vec (.slice (some ⟨b1, 0, none⟩) 2 2) 28 3 2 (([((⟨#[97]⟩ : ByteArray), (⟨#[98]⟩ : ByteArray), (0 : Int)), ((⟨#[98]⟩ : ByteArray), (⟨#[99]⟩ : ByteArray), (0 : Int))]).flatMap encLk)]) (size := 3) rfl rfl (by unfold maxLen; omega) rfl
  obtain ⟨σ2, hS6, hsub2, hr3⟩ := hS5.peek (i := 1) rfl (notin0 _) encLk_len (by simp [Sml])
  obtain ⟨Y2, hK2, hc2⟩ := hP
  refine o_call (args := [(.slice (some ⟨b1, 0, none⟩) 2 2), (.string (⟨#[99]⟩ : ByteArray))]) rfl Try.call18 (Calls.mono (w_identity_Members ([((⟨#[97]⟩ : ByteArray), (⟨#[98]⟩ : ByteArray), (0 : Int)), ((⟨#[98]⟩ : ByteArray), (⟨#[99]⟩ : ByteArray), (0 : Int))]) (⟨#[99]⟩ : ByteArray) (.slice (some ⟨b1, 0, none⟩) 2 2) hS6.view hr3 hc2) ?_)
  rintro _ w3 ⟨r3_, v2, σ3, rfl, hg2, hr4, hY2⟩
  refine ⟨_, rfl, ?_⟩
  have hS7 := hS6.grow hg2
  replace hP := hK2 r3_ hY2
  obtain ⟨a1, cap1, rfl⟩ := hr4.shape
  refine o_bslice (cs := [(.string (⟨#[97]⟩ : ByteArray)), (.string (⟨#[98]⟩ : ByteArray)), (.string (⟨#[99]⟩ : ByteArray))]) (e := 9) hS7 (fun _ => by kernel_rfl) ?_
  intro b2 w4 hS8
  have hS9 := hS8.asVec (i := 0) (ms' := [vec (.slice (some ⟨b2, 0, none⟩) 3 3) 9 1 3 (([(⟨#[97]⟩ : ByteArray), (⟨#[98]⟩ : ByteArray), (⟨#[99]⟩ : ByteArray)]).flatMap encTx), vec v1 28 3 r1_.length ((r1_).flatMap encLk)]) (size := 1) rfl rfl (by unfold maxLen; omega) rfl
  obtain ⟨σ4, hS10, hsub3, hr5⟩ := hS9.peek (i := 0) rfl (notin0 _) encTx_len (by simp [Sml])
  obtain ⟨Y3, hK3, hc3⟩ := hP
  refine o_call (args := [(.slice a1 r3_.length cap1), (.slice (some ⟨b2, 0, none⟩) 3 3)]) rfl Try.call19 (Calls.mono (w_ref1_Same r3_ ([(⟨#[97]⟩ : ByteArray), (⟨#[98]⟩ : ByteArray), (⟨#[99]⟩ : ByteArray)]) (.slice a1 r3_.length cap1) (.slice (some ⟨b2, 0, none⟩) 3 3) hS10.view (RSl.menc hsub3 hr4) hr5 hc3) ?_)
  rintro _ w5 ⟨r4_, rfl, hg3, hY3⟩
  refine ⟨_, rfl, ?_⟩
  have hg3b := hg3.back hsub3
  have hS11 := hS8.grow hg3b
  replace hP := hK3 r4_ hY3
  rcases Bool.eq_false_or_eq_true (r4_) with hb1 | hb1
  · replace hP := hP.1 hb1
    refine o_move (v := (.bool true)) (congrArg Value.bool hb1) ?_
    refine o_on rfl rfl ?_
    refine o_move (v := (.bool (r2_))) rfl ?_
    refine o_pick_t (v := (.bool (r2_))) rfl rfl ?_
    rcases Bool.eq_false_or_eq_true (r2_) with hb2 | hb2
    · replace hP := hP.1 hb2
      refine o_move (v := (.bool true)) (congrArg Value.bool hb2) ?_
      refine o_on rfl rfl ?_
      refine o_move (v := v1) rfl ?_
      refine o_on rfl rfl ?_
      refine o_move (v := (.slice (some ⟨b1, 0, none⟩) 2 2)) rfl ?_
      refine o_on rfl rfl ?_
      obtain ⟨σ5, hS12, hsub4, hr6⟩ := hS11.peek (i := 1) rfl (notin0 _) encLk_len hl1
      obtain ⟨Y4, hK4, hc4⟩ := hP
      refine o_call (args := [v1, (.slice (some ⟨b1, 0, none⟩) 2 2)]) rfl Try.call22 (Calls.mono (w_ref26_SameLinks r1_ ([((⟨#[97]⟩ : ByteArray), (⟨#[98]⟩ : ByteArray), (0 : Int)), ((⟨#[98]⟩ : ByteArray), (⟨#[99]⟩ : ByteArray), (0 : Int))]) v1 (.slice (some ⟨b1, 0, none⟩) 2 2) hS12.view hr6 (RSl.menc (Sub.trans hg2.sub hsub4) hr3) hc4) ?_)
      rintro _ w6 ⟨r5_, rfl, hg4, hY4⟩
      refine ⟨_, rfl, ?_⟩
      have hg4b := hg4.back hsub4
      have hS13 := hS11.grow hg4b
      replace hP := hK4 r5_ hY4
      refine o_pick_t (v := (.bool (r5_))) rfl rfl ?_
      refine o_assign (v := (.bool (r5_))) rfl ?_
      refine wpList_nil ?_
      refine then_n ?_
      refine wp_ret ?_
      refine ret1 rfl (show ev _ _ _ = (.bool (r5_)) from rfl) ?_
      exact ⟨(r5_), rfl, hS13.done.forget, hP⟩
    · replace hP := hP.2 (by simp [hb2])
      refine o_move (v := (.bool false)) (congrArg Value.bool hb2) ?_
      refine o_off rfl rfl ?_
      refine o_off rfl rfl ?_
      refine o_off rfl rfl ?_
      refine o_pick_f (v := (.bool false)) rfl rfl ?_
      refine o_assign (v := (.bool false)) rfl ?_
      refine wpList_nil ?_
      refine then_n ?_
      refine wp_ret ?_
      refine ret1 rfl (show ev _ _ _ = (.bool false) from rfl) ?_
      exact ⟨false, rfl, hS11.done.forget, hP⟩
  · replace hP := hP.2 (by simp [hb1])
    refine o_move (v := (.bool false)) (congrArg Value.bool hb1) ?_
    refine o_off rfl rfl ?_
    refine o_pick_f (v := (.bool false)) rfl rfl ?_
    refine o_move (v := (.bool false)) rfl ?_
    refine o_off rfl rfl ?_
    refine o_off rfl rfl ?_
    refine o_off rfl rfl ?_
    refine o_pick_f (v := (.bool false)) rfl rfl ?_
    refine o_assign (v := (.bool false)) rfl ?_
    refine wpList_nil ?_
    refine then_n ?_
    refine wp_ret ?_
    refine ret1 rfl (show ev _ _ _ = (.bool false) from rfl) ?_
    exact ⟨false, rfl, hS11.done.forget, hP⟩

end Go.Proofs.Ytehmnkholidanaa
