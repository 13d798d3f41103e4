/- What a call answers, and that it leaves the memory that was there as it was: flagstone/traffic.of. Conditions: those of each statement (that the arguments can be read). -/
import Derived.Test.YtddgjdaobcbcaaaRows
import Derived.Test.YtddgjdaobcbcaaaFlDraw
import Derived.KernelRfl
import Derived.Test.YtddgjdaobcbcaaaExp
import Derived.Test.YtddgjdaobcbcaaaSpLaw
namespace Go.Proofs.Ytddgjdaobcbcaaa
open Go Go.RowKit Go.Fl

theorem z_set : isRep zB 10000 (zcells Try.t42.zero) = true := by kernel_rfl
theorem z_dep : isRep zI 10001 (zcells Try.t52.zero) = true := by kernel_rfl

theorem c_of {σ : Hv} {w : World} (v : Value) (ls : List (List (Int × Int))) (hV : View σ w) (hv : RSl 1 (RSs 2 (REnc encSp)) σ v ls) (hn : ls.flatten.length ≤ 1152921504606846976) :
    Calls Try.prog 25 #[v] w fun e w1 => e = .returned (.agg (brow 10000 (Sp.cov ls.flatten)).toArray) ∧ Grow [] σ w σ w1 := by
  refine enter Try.func25 rfl rfl rfl ?_
  obtain ⟨a, cap, rfl, h1, h2, hel⟩ := hv
  have hS := St.start hV
  refine seq_reg ?_
  refine o_alloc (cs := brow 10000 (fun i => false)) hS (zero_rep Try.type42 (isRep_eq zB_eq z_set) (by omega)) (by simp [Value.cells, brow_zero]) ?_
  intro b1 w1 hS1
  refine wpList_nil ?_
  refine then_n ?_
  refine seq_reg ?_
  refine o_alloc (cs := irow 10001 (fun i => 0)) hS1 (zero_rep Try.type52 (isRep_eq zI_eq z_dep) (by omega)) (by simp [Value.cells, irow_zero]) ?_
  intro b2 w2 hS2
  refine wpList_nil ?_
  refine then_n ?_
  refine wp_seq ?_
  refine seq_reg ?_
  refine o_move (v := (.slice a ls.length cap)) rfl ?_
  refine o_len_slice rfl Try.underlying51 ?_
  refine o_move (v := (.int .i64 (0 : Int))) rfl ?_
  refine wpList_nil ?_
  refine then_n ?_
  refine wp_block ?_
  refine loop (fun m f z => ∃ (k1 : Nat) (g : Fr), m = ls.length - k1 ∧ f = (upd (upd (upd (upd (upd g 2 (.pointer (some ⟨b1, 0, none⟩))) 3 (.pointer (some ⟨b2, 0, none⟩))) 13 (.slice a ls.length cap)) 14 (.int .i64 ((ls.length : Nat) : Int))) 15 (.int .i64 ((k1 : Nat) : Int))) ∧ St ⟨w, σ, []⟩ z σ [blk b2 52 (irow 10001 (Sp.dep ((ls.take k1).flatten))), blk b1 42 (brow 10000 (fun i => false))] ∧ (k1 ≤ ls.length)) (m0 := _) ⟨0, _, rfl, (upd_in rfl (upd_in rfl (upd_in rfl (upd_in rfl (upd_in rfl rfl))))), hS2, Nat.zero_le _⟩ ?_
  rintro _ _ w3 ⟨k1, g, rfl, rfl, hS3, hk1⟩
  refine seq_reg ?_
  refine o_lss (r := (decide (((k1 : Nat) : Int) < ((ls.length : Nat) : Int)))) rfl rfl rfl ?_
  refine wpList_nil ?_
  refine then_n ?_
  refine wp_seq ?_
  refine if_d (((k1 : Nat) : Int) < ((ls.length : Nat) : Int)) rfl (fun ht1 => ?_) (fun ht1 => ?_)
  · refine wp_skip ?_
    refine then_n ?_
    refine wp_seq ?_
    refine wp_block ?_
    refine seq_reg ?_
    obtain ⟨x1, hx1⟩ := getq (l := ls) (k := k1) (by omega)
    obtain ⟨ad1, cs1, ha1, hl1, hr1, hR1⟩ := hel k1 _ hx1
    obtain ⟨v1, rfl, a1, cap1, rfl, h2, h3, hel1⟩ := hR1
    refine o_iaddr_slice (k := k1) (a' := (ad1.add (k1 * 1))) (congrArg (fun z => Value.slice z _ _) ha1) rfl (by omega) (lt_of_getq hx1) Try.underlying51 Try.sizeOf24 rfl ?_
    refine o_load (v := (.slice a1 x1.length cap1)) rfl Try.isAgg24 (hr1.cell hS3.view 0 rfl rfl) ?_
    refine o_assign (v := (.slice a1 x1.length cap1)) rfl ?_
    refine wpList_nil ?_
    refine then_n ?_
    refine seq_reg ?_
    refine o_move (v := (.slice a1 x1.length cap1)) rfl ?_
    refine o_len_slice rfl Try.underlying24 ?_
    refine o_move (v := (.int .i64 (0 : Int))) rfl ?_
    refine wpList_nil ?_
    refine then_n ?_
    refine wp_block ?_
    refine loop (fun m f z => ∃ (k2 : Nat) (g : Fr), m = x1.length - k2 ∧ f = (upd (upd (upd (upd (upd (upd (upd (upd g 2 (.pointer (some ⟨b1, 0, none⟩))) 3 (.pointer (some ⟨b2, 0, none⟩))) 13 (.slice a ls.length cap)) 14 (.int .i64 ((ls.length : Nat) : Int))) 15 (.int .i64 ((k1 : Nat) : Int))) 19 (.slice a1 x1.length cap1)) 20 (.int .i64 ((x1.length : Nat) : Int))) 21 (.int .i64 ((k2 : Nat) : Int))) ∧ St ⟨w, σ, []⟩ z σ [blk b2 52 (irow 10001 (Sp.dep ((ls.take k1).flatten ++ x1.take k2))), blk b1 42 (brow 10000 (fun i => false))] ∧ (k2 ≤ x1.length)) (m0 := _) ⟨0, _, rfl, (upd_in rfl (upd_in rfl (upd_in rfl (upd_in rfl (upd_in rfl (upd_in rfl (upd_in rfl (upd_in rfl rfl)))))))), (by rw [List.take_zero, List.append_nil]; exact hS3), Nat.zero_le _⟩ ?_
    rintro _ _ w4 ⟨k2, g, rfl, rfl, hS4, hk2⟩
    refine seq_reg ?_
    refine o_lss (r := (decide (((k2 : Nat) : Int) < ((x1.length : Nat) : Int)))) rfl rfl rfl ?_
    refine wpList_nil ?_
    refine then_n ?_
    refine wp_seq ?_
    refine if_d (((k2 : Nat) : Int) < ((x1.length : Nat) : Int)) rfl (fun ht2 => ?_) (fun ht2 => ?_)
    · refine wp_skip ?_
      refine then_n ?_
      refine wp_seq ?_
      refine wp_block ?_
      refine seq_reg ?_
      obtain ⟨x2, hx2⟩ := getq (l := x1) (k := k2) (by omega)
      obtain ⟨ad2, cs2, ha2, hl2, hr2, hR2⟩ := hel1 k2 _ hx2
      cases hR2
      refine o_iaddr_slice (k := k2) (a' := (ad2.add (k2 * 2))) (congrArg (fun z => Value.slice z _ _) ha2) rfl (by omega) (lt_of_getq hx2) Try.underlying24 Try.sizeOf37 rfl ?_
      refine o_loadA (cs := [(.int .i64 x2.1), (.int .i64 x2.2)]) rfl Try.isAgg37 Try.sizeOf37 rfl (hr2.row hS4.view) ?_
      refine o_alloc (cs := [(.int .i64 (0 : Int)), (.int .i64 (0 : Int))]) hS4 Try.zeroValue37 rfl ?_
      intro b3 w5 hS5
      refine o_store (T := 37) (vs := [(.int .i64 x2.1), (.int .i64 x2.2)]) (cs' := [(.int .i64 x2.1), (.int .i64 x2.2)]) (ms' := [blk b3 37 [(.int .i64 x2.1), (.int .i64 x2.2)], blk b2 52 (irow 10001 (Sp.dep ((ls.take k1).flatten ++ x1.take k2))), blk b1 42 (brow 10000 (fun i => false))]) (i := 0) hS5 rfl rfl rfl Try.sizeOf37 rfl (ones rfl) rfl (Nat.le_of_ble_eq_true rfl) rfl rfl ?_
      intro w6 hS6
      refine wpList_nil ?_
      refine then_n ?_
      refine wp_seq ?_
      refine d_reg (fun z => St ⟨w, σ, []⟩ z σ [blk b3 37 [(.int .i64 x2.1), (.int .i64 x2.2)], blk b2 52 (irow 10001 (Sp.dep ((ls.take k1).flatten ++ x1.take k2))), blk b1 42 (brow 10000 (fun i => false))]) (by kernel_rfl) rfl rfl ?_
      have hS7 := hS6.drew
      refine d_take (i := 0) (v := (.pointer (some ⟨b3, 0, none⟩))) (l' := #[true, false, false, false, false, false, false, false]) rfl (by kernel_rfl) (by kernel_rfl) (by kernel_rfl) rfl rfl (fun _ _ _ h => h) hS7 (fun w hJ K hK => ?_) ?_
      · refine o_faddr (a' := ⟨b3, 0, none⟩) rfl Try.underlying37 rfl Try.sizeOf3 rfl ?_
        exact ⟨rfl, hK⟩
      refine d_take (i := 1) (v := (.int .i64 x2.1)) (l' := #[true, true, false, false, false, false, false, false]) rfl (by kernel_rfl) (by kernel_rfl) (by kernel_rfl) rfl rfl (fun _ _ _ h => h) hS7 (fun w hJ K hK => ?_) ?_
      · refine o_load (v := (.int .i64 x2.1)) rfl Try.isAgg3 (hJ.cell (i := 0) rfl rfl) ?_
        exact ⟨rfl, hK⟩
      refine d_take (i := 2) (v := (.int .i64 (max x2.1 (0 : Int)))) (l' := #[true, true, true, false, false, false, false, false]) rfl (by kernel_rfl) (by kernel_rfl) (by kernel_rfl) rfl rfl (fun _ _ _ h => h) hS7 (fun w hJ K hK => ?_) ?_
      · refine o_max (r := (max x2.1 (0 : Int))) rfl rfl rfl ?_
        exact ⟨rfl, hK⟩
      refine d_take (i := 3) (v := (.pointer (some ⟨b3, 1, none⟩))) (l' := #[true, true, true, true, false, false, false, false]) rfl (by kernel_rfl) (by kernel_rfl) (by kernel_rfl) rfl rfl (fun _ _ _ h => h) hS7 (fun w hJ K hK => ?_) ?_
      · refine o_faddr (a' := ⟨b3, 1, none⟩) rfl Try.underlying37 rfl Try.sizeOf3 rfl ?_
        exact ⟨rfl, hK⟩
      refine d_take (i := 4) (v := (.int .i64 x2.2)) (l' := #[true, true, true, true, true, false, false, false]) rfl (by kernel_rfl) (by kernel_rfl) (by kernel_rfl) rfl rfl (fun _ _ _ h => h) hS7 (fun w hJ K hK => ?_) ?_
      · refine o_load (v := (.int .i64 x2.2)) rfl Try.isAgg3 (hJ.cell (i := 0) rfl rfl) ?_
        exact ⟨rfl, hK⟩
      refine d_take (i := 5) (v := (.int .i64 (min x2.2 (10000 : Int)))) (l' := #[true, true, true, true, true, true, false, false]) rfl (by kernel_rfl) (by kernel_rfl) (by kernel_rfl) rfl rfl (fun _ _ _ h => h) hS7 (fun w hJ K hK => ?_) ?_
      · refine o_min (r := (min x2.2 (10000 : Int))) rfl rfl rfl ?_
        exact ⟨rfl, hK⟩
      refine d_take (i := 6) (v := (.int .i64 (max x2.1 (0 : Int)))) (l' := #[true, true, true, true, true, true, true, false]) rfl (by kernel_rfl) (by kernel_rfl) (by kernel_rfl) rfl rfl (fun _ _ _ h => h) hS7 (fun w hJ K hK => ?_) ?_
      · refine o_assign (v := (.int .i64 (max x2.1 (0 : Int)))) rfl ?_
        exact ⟨rfl, hK⟩
      refine d_take (i := 7) (v := (.int .i64 (min x2.2 (10000 : Int)))) (l' := #[true, true, true, true, true, true, true, true]) rfl (by kernel_rfl) (by kernel_rfl) (by kernel_rfl) rfl rfl (fun _ _ _ h => h) hS7 (fun w hJ K hK => ?_) ?_
      · refine o_assign (v := (.int .i64 (min x2.2 (10000 : Int)))) rfl ?_
        exact ⟨rfl, hK⟩
      refine d_done (by kernel_rfl) ?_
      refine then_n ?_
      refine seq_reg ?_
      refine o_move (v := (.int .i64 (max x2.1 (0 : Int)))) rfl ?_
      refine o_move (v := (.int .i64 (min x2.2 (10000 : Int)))) rfl ?_
      refine o_lss (r := (decide ((max x2.1 (0 : Int)) < (min x2.2 (10000 : Int))))) rfl rfl rfl ?_
      refine wpList_nil ?_
      refine then_n ?_
      refine if_d ((max x2.1 (0 : Int)) < (min x2.2 (10000 : Int))) rfl (fun ht3 => ?_) (fun ht3 => ?_)
      · obtain ⟨fa, hfa⟩ : ∃ fa : Nat, ((fa : Nat) : Int) = max x2.1 0 := ⟨(max x2.1 0).toNat, by omega⟩
        obtain ⟨fb, hfb⟩ : ∃ fb : Nat, ((fb : Nat) : Int) = min x2.2 10000 := ⟨(min x2.2 10000).toNat, by omega⟩
        have hda := Sp.dep_bound ((ls.take k1).flatten ++ x1.take k2) fa
        have hdb := Sp.dep_bound ((ls.take k1).flatten ++ x1.take k2) fb
        have hlen : (((ls.take k1).flatten ++ x1.take k2)).length ≤ ls.flatten.length := Sp.part_le hx1 (by omega)
        refine seq_reg ?_
        refine o_move (v := (.int .i64 (max x2.1 (0 : Int)))) rfl ?_
        refine o_iaddr_arr (k := fa) (a' := ⟨b2, fa, none⟩) rfl rfl (by omega) (by omega) Try.underlying52 Try.sizeOf3 (by simp [addr_lit]) ?_
        refine o_load (v := (.int .i64 (Sp.dep ((ls.take k1).flatten ++ x1.take k2) fa))) rfl Try.isAgg3 (hS7.cell (i := 1) rfl (irow_at (by omega))) ?_
        refine o_add (r := ((Sp.dep ((ls.take k1).flatten ++ x1.take k2) fa) + (1 : Int))) rfl rfl (nw (by omega) (by omega) (by omega)) ?_
        refine o_iaddr_arr (k := fa) (a' := ⟨b2, fa, none⟩) rfl rfl (by omega) (by omega) Try.underlying52 Try.sizeOf3 (by simp [addr_lit]) ?_
        refine o_store (T := 52) (vs := [(.int .i64 ((Sp.dep ((ls.take k1).flatten ++ x1.take k2) fa) + (1 : Int)))]) (cs' := irow 10001 (fun i => (if i = fa then ((Sp.dep ((ls.take k1).flatten ++ x1.take k2) fa) + (1 : Int)) else Sp.dep ((ls.take k1).flatten ++ x1.take k2) i))) (ms' := [blk b3 37 [(.int .i64 x2.1), (.int .i64 x2.2)], blk b2 52 (irow 10001 (fun i => (if i = fa then ((Sp.dep ((ls.take k1).flatten ++ x1.take k2) fa) + (1 : Int)) else Sp.dep ((ls.take k1).flatten ++ x1.take k2) i))), blk b1 42 (brow 10000 (fun i => false))]) (i := 1) hS7 rfl rfl rfl Try.sizeOf3 rfl (ones rfl) rfl (by rw [irow_len]; omega) (irow_set (by omega)) rfl ?_
        intro w7 hS8
        refine wpList_nil ?_
        refine then_n ?_
        refine one_reg ?_
        refine o_move (v := (.int .i64 (min x2.2 (10000 : Int)))) rfl ?_
        refine o_iaddr_arr (k := fb) (a' := ⟨b2, fb, none⟩) rfl rfl (by omega) (by omega) Try.underlying52 Try.sizeOf3 (by simp [addr_lit]) ?_
        refine o_load (v := (.int .i64 ((if fb = fa then ((Sp.dep ((ls.take k1).flatten ++ x1.take k2) fa) + (1 : Int)) else Sp.dep ((ls.take k1).flatten ++ x1.take k2) fb)))) rfl Try.isAgg3 (hS8.cell (i := 1) rfl (irow_at (by omega))) ?_
        refine o_sub (r := (((if fb = fa then ((Sp.dep ((ls.take k1).flatten ++ x1.take k2) fa) + (1 : Int)) else Sp.dep ((ls.take k1).flatten ++ x1.take k2) fb)) - (1 : Int))) rfl rfl (nw (by omega) (by omega) (by omega)) ?_
        refine o_iaddr_arr (k := fb) (a' := ⟨b2, fb, none⟩) rfl rfl (by omega) (by omega) Try.underlying52 Try.sizeOf3 (by simp [addr_lit]) ?_
        refine o_store (T := 52) (vs := [(.int .i64 (((if fb = fa then ((Sp.dep ((ls.take k1).flatten ++ x1.take k2) fa) + (1 : Int)) else Sp.dep ((ls.take k1).flatten ++ x1.take k2) fb)) - (1 : Int)))]) (cs' := irow 10001 (Sp.dep (((ls.take k1).flatten ++ x1.take k2) ++ [x2]))) (ms' := [blk b3 37 [(.int .i64 x2.1), (.int .i64 x2.2)], blk b2 52 (irow 10001 (Sp.dep (((ls.take k1).flatten ++ x1.take k2) ++ [x2]))), blk b1 42 (brow 10000 (fun i => false))]) (i := 1) hS8 rfl rfl rfl Try.sizeOf3 rfl (ones rfl) rfl (by rw [irow_len]; omega) ((irow_set (by omega)).trans (irow_congr (fun i _ => Sp.dep_step ((ls.take k1).flatten ++ x1.take k2) x2 fa fb hfa hfb (by unfold Sp.lo Sp.hi; omega) i))) rfl ?_
        intro w8 hS9
        refine wpList_nil ?_
        refine blk_n ?_
        refine then_n ?_
        refine one_reg ?_
        refine o_add (r := ((k2 + 1 : Nat) : Int)) rfl rfl (nw (by omega) (by omega) (by omega)) ?_
        refine o_move (v := (.int .i64 ((k2 + 1 : Nat) : Int))) rfl ?_
        refine wpList_nil ?_
        refine then_n ?_
        have hE : x1.take (k2 + 1) = x1.take k2 ++ [x2] := take_snoc hx2
        exact ⟨_, _, rfl, ⟨k2 + 1, _, rfl, (upd_in rfl (upd_in rfl (upd_in rfl (upd_in rfl (upd_in rfl (upd_in rfl (upd_in rfl (upd_in rfl rfl)))))))), (by rw [hE, ← List.append_assoc]; exact hS9.drop 0 rfl), by have := lt_of_getq hx2; omega⟩, by have := lt_of_getq hx2; omega⟩
      · refine wp_skip ?_
        refine blk_n ?_
        refine then_n ?_
        refine one_reg ?_
        refine o_add (r := ((k2 + 1 : Nat) : Int)) rfl rfl (nw (by omega) (by omega) (by omega)) ?_
        refine o_move (v := (.int .i64 ((k2 + 1 : Nat) : Int))) rfl ?_
        refine wpList_nil ?_
        refine then_n ?_
        have hE : x1.take (k2 + 1) = x1.take k2 ++ [x2] := take_snoc hx2
        exact ⟨_, _, rfl, ⟨k2 + 1, _, rfl, (upd_in rfl (upd_in rfl (upd_in rfl (upd_in rfl (upd_in rfl (upd_in rfl (upd_in rfl (upd_in rfl rfl)))))))), (by rw [hE, ← List.append_assoc, irow_congr (fun i _ => Sp.dep_skip ((ls.take k1).flatten ++ x1.take k2) x2 ht3 i)]; exact hS7.drop 0 rfl), by have := lt_of_getq hx2; omega⟩, by have := lt_of_getq hx2; omega⟩
    · refine wp_exit ?_
      refine then_e ?_
      refine then_e ?_
      refine blk_hit ?_
      refine blk_n ?_
      refine then_n ?_
      refine one_reg ?_
      refine o_add (r := ((k1 + 1 : Nat) : Int)) rfl rfl (nw (by omega) (by omega) (by omega)) ?_
      refine o_move (v := (.int .i64 ((k1 + 1 : Nat) : Int))) rfl ?_
      refine wpList_nil ?_
      refine then_n ?_
      have hSl := hS4
      rw [List.take_of_length_le (show x1.length ≤ k2 by omega)] at hSl
      exact ⟨_, _, rfl, ⟨k1 + 1, _, rfl, (upd_in rfl (upd_in rfl (upd_in rfl (upd_in rfl (upd_in rfl rfl))))), (by rw [Sp.flat_take hx1]; exact hSl), by have := lt_of_getq hx1; omega⟩, by have := lt_of_getq hx1; omega⟩
  · refine wp_exit ?_
    refine then_e ?_
    refine then_e ?_
    refine blk_hit ?_
    refine then_n ?_
    refine seq_reg ?_
    refine o_alloc (cs := brow 10000 (fun i => false)) hS3 (zero_rep Try.type42 (isRep_eq zB_eq z_set) (by omega)) (by simp [Value.cells, brow_zero]) ?_
    intro b4 w9 hS10
    refine wpList_nil ?_
    refine then_n ?_
    refine seq_reg ?_
    refine o_assign (v := (.int .i64 (0 : Int))) rfl ?_
    refine wpList_nil ?_
    refine then_n ?_
    refine wp_seq ?_
    refine seq_reg ?_
    refine o_move (v := (.int .i64 (0 : Int))) rfl ?_
    refine wpList_nil ?_
    refine then_n ?_
    refine wp_block ?_
    rw [List.take_of_length_le (show ls.length ≤ k1 by omega)] at hS10
    refine loop (fun m f z => ∃ (k3 : Nat) (g : Fr), m = 10000 - k3 ∧ f = (upd (upd (upd (upd (upd g 2 (.pointer (some ⟨b1, 0, none⟩))) 3 (.pointer (some ⟨b2, 0, none⟩))) 10 (.pointer (some ⟨b4, 0, none⟩))) 11 (.int .i64 (Sp.psum (Sp.dep ls.flatten) k3))) 46 (.int .i64 ((k3 : Nat) : Int))) ∧ St ⟨w, σ, []⟩ z σ [blk b4 42 (brow 10000 (fun i => (decide (i < k3) && Sp.cov ls.flatten i))), blk b2 52 (irow 10001 (Sp.dep ls.flatten)), blk b1 42 (brow 10000 (fun i => false))] ∧ (k3 ≤ 10000)) (m0 := _) ⟨0, _, rfl, (upd_in rfl (upd_in rfl (upd_in rfl (upd_in rfl (upd_in rfl rfl))))), (by simpa using hS10), Nat.zero_le _⟩ ?_
    rintro _ _ w10 ⟨k3, g, rfl, rfl, hS11, hk3⟩
    refine seq_reg ?_
    refine o_lss (r := (decide (((k3 : Nat) : Int) < (10000 : Int)))) rfl rfl rfl ?_
    refine wpList_nil ?_
    refine then_n ?_
    refine wp_seq ?_
    refine if_d (((k3 : Nat) : Int) < (10000 : Int)) rfl (fun ht4 => ?_) (fun ht4 => ?_)
    · refine wp_skip ?_
      refine then_n ?_
      refine wp_seq ?_
      refine wp_block ?_
      refine seq_reg ?_
      refine o_move (v := (.int .i64 ((k3 : Nat) : Int))) rfl ?_
      refine o_assign (v := (.int .i64 ((k3 : Nat) : Int))) rfl ?_
      refine wpList_nil ?_
      refine then_n ?_
      refine seq_reg ?_
      have hps := Sp.psum_nonneg ls.flatten k3 (by omega)
      have hps2 : Sp.psum (Sp.dep ls.flatten) (k3 + 1) = Sp.psum (Sp.dep ls.flatten) k3 + Sp.dep ls.flatten k3 := rfl
      refine o_move (v := (.int .i64 (Sp.psum (Sp.dep ls.flatten) k3))) rfl ?_
      refine o_move (v := (.int .i64 ((k3 : Nat) : Int))) rfl ?_
      refine o_iaddr_arr (k := k3) (a' := ⟨b2, k3, none⟩) rfl rfl (by omega) (by omega) Try.underlying52 Try.sizeOf3 (by simp [addr_lit]) ?_
      refine o_load (v := (.int .i64 (Sp.dep ls.flatten k3))) rfl Try.isAgg3 (hS11.cell (i := 1) rfl (irow_at (by omega))) ?_
      refine o_add (r := ((Sp.psum (Sp.dep ls.flatten) k3) + (Sp.dep ls.flatten k3))) rfl rfl (nw (by omega) (by omega) (by omega)) ?_
      refine o_assign (v := (.int .i64 ((Sp.psum (Sp.dep ls.flatten) k3) + (Sp.dep ls.flatten k3)))) rfl ?_
      refine wpList_nil ?_
      refine then_n ?_
      refine one_reg ?_
      refine o_move (v := (.int .i64 ((k3 : Nat) : Int))) rfl ?_
      refine o_move (v := (.int .i64 ((Sp.psum (Sp.dep ls.flatten) k3) + (Sp.dep ls.flatten k3)))) rfl ?_
      refine o_gtr (r := (decide ((0 : Int) < ((Sp.psum (Sp.dep ls.flatten) k3) + (Sp.dep ls.flatten k3))))) rfl rfl rfl ?_
      refine o_iaddr_arr (k := k3) (a' := ⟨b4, k3, none⟩) rfl rfl (by omega) (by omega) Try.underlying42 Try.sizeOf4 (by simp [addr_lit]) ?_
      refine o_store (T := 42) (vs := [(.bool (decide ((0 : Int) < ((Sp.psum (Sp.dep ls.flatten) k3) + (Sp.dep ls.flatten k3)))))]) (cs' := brow 10000 (fun i => (decide (i < k3 + 1) && Sp.cov ls.flatten i))) (ms' := [blk b4 42 (brow 10000 (fun i => (decide (i < k3 + 1) && Sp.cov ls.flatten i))), blk b2 52 (irow 10001 (Sp.dep ls.flatten)), blk b1 42 (brow 10000 (fun i => false))]) (i := 0) hS11 rfl rfl rfl Try.sizeOf4 rfl (ones rfl) rfl (by rw [brow_len]; omega) ((brow_set (by omega)).trans (brow_congr (fun i _ => Sp.set_step ls.flatten k3 (by omega) i))) rfl ?_
      intro w11 hS12
      refine wpList_nil ?_
      refine blk_n ?_
      refine then_n ?_
      refine one_reg ?_
      refine o_add (r := ((k3 + 1 : Nat) : Int)) rfl rfl (nw (by omega) (by omega) (by omega)) ?_
      refine o_move (v := (.int .i64 ((k3 + 1 : Nat) : Int))) rfl ?_
      refine wpList_nil ?_
      refine then_n ?_
      exact ⟨_, _, rfl, ⟨k3 + 1, _, rfl, (upd_in rfl (upd_in rfl (upd_in rfl (upd_in rfl (upd_in rfl rfl))))), hS12, by omega⟩, by omega⟩
    · refine wp_exit ?_
      refine then_e ?_
      refine then_e ?_
      refine blk_hit ?_
      refine then_n ?_
      refine seq_reg ?_
      refine o_loadA (cs := brow 10000 (fun i => (decide (i < k3) && Sp.cov ls.flatten i))) rfl Try.isAgg42 Try.sizeOf42 (brow_len _ _) (blk_row (hS11.get (i := 0) rfl)) ?_
      refine o_store (T := 42) (vs := brow 10000 (fun i => (decide (i < k3) && Sp.cov ls.flatten i))) (cs' := brow 10000 (fun i => (decide (i < k3) && Sp.cov ls.flatten i))) (ms' := [blk b4 42 (brow 10000 (fun i => (decide (i < k3) && Sp.cov ls.flatten i))), blk b2 52 (irow 10001 (Sp.dep ls.flatten)), blk b1 42 (brow 10000 (fun i => (decide (i < k3) && Sp.cov ls.flatten i)))]) (i := 2) hS11 rfl rfl (cells_agg _) Try.sizeOf42 (brow_len _ _) (brow_ones _ _) rfl (by simp [brow_len]) (splice_all (by simp [brow_len])) rfl ?_
      intro w12 hS13
      refine wpList_nil ?_
      refine then_n ?_
      refine wp_ret ?_
      refine retrow rfl rfl (hS13.get (i := 2) rfl) Try.underlying42 rfl ((show (Try.prog.info? 42).map (·.size) = some 10000 from rfl).trans (by simp [brow_len])) ?_
      exact ⟨congrArg (fun l : List Value => Ending.returned (.agg l.toArray)) (brow_congr (fun i hi => Sp.all_step ls.flatten k3 i (by omega))), hS13.done⟩


end Go.Proofs.Ytddgjdaobcbcaaa
