/- What a call answers, and that it leaves the memory that was there as it was: flagstone/flagstoneref6.SameSpans, flagstone/flagstonelaw14.awake. Conditions: those of each statement (that the arguments can be read). -/
import Derived.Test.YtddgjdaobcbcaaaRows
import Derived.Test.YtddgjdaobcbcaaaFlDraw
import Derived.KernelRfl
import Derived.Test.YtddgjdaobcbcaaaExp7
namespace Go.Proofs.Ytddgjdaobcbcaaa
open Go Go.RowKit Go.Fl

theorem g_37 (op : BinOp) (x y : Operand) (a b : Array Value) : ∀ w, (eqGuard op 37 x y (.agg a) (.agg b)).run Try.prog w = .ok () w :=
  fun w => run_eqGuard_agg w op 37 x y a b (by kernel_rfl)
theorem e_37 (a0 b0 : Int) (a1 b1 : Int) : ∀ w, (binOp .eql 37 (.agg #[.int .i64 a0, .int .i64 a1]) (.agg #[.int .i64 b0, .int .i64 b1])).run Try.prog w = .ok (.bool (decide (a0 = b0 ∧ a1 = b1))) w := by
  intro w
  rw [run_eql_struct, run_equalIn_struct w 9999 37 _ _ (by kernel_rfl) (by kernel_rfl)]
  have ei3 : ∀ (x y : Int) (w : World), (Op.equalIn 9999 3 (.int .i64 x) (.int .i64 y)).run Try.prog w = .ok (x == y) w := fun x y w => run_equalIn_int w 9998 3 _ _ x y Try.underlying3
  rw [show (Try.prog.fieldsOf 37).toList = [⟨ "From", 3, 0, False, "", "", 0⟩, ⟨ "To", 3, 1, False, "", "", 8⟩] from by kernel_rfl]
  by_cases h0 : a0 = b0 <;> by_cases h1 : a1 = b1 <;> simp [Op.eqFields, part, h0, h1, ei3]
theorem ne_37 (a0 b0 : Int) (a1 b1 : Int) : ∀ w, (binOp .neq 37 (.agg #[.int .i64 a0, .int .i64 a1]) (.agg #[.int .i64 b0, .int .i64 b1])).run Try.prog w = .ok (.bool (!decide (a0 = b0 ∧ a1 = b1))) w := by
  intro w
  rw [run_neq_struct, run_equalIn_struct w 9999 37 _ _ (by kernel_rfl) (by kernel_rfl)]
  have ei3 : ∀ (x y : Int) (w : World), (Op.equalIn 9999 3 (.int .i64 x) (.int .i64 y)).run Try.prog w = .ok (x == y) w := fun x y w => run_equalIn_int w 9998 3 _ _ x y Try.underlying3
  rw [show (Try.prog.fieldsOf 37).toList = [⟨ "From", 3, 0, False, "", "", 0⟩, ⟨ "To", 3, 1, False, "", "", 8⟩] from by kernel_rfl]
  by_cases h0 : a0 = b0 <;> by_cases h1 : a1 = b1 <;> simp [Op.eqFields, part, h0, h1, ei3]

theorem r_SameSpans {σ : Hv} {w : World} (v v2 : Value) (l : List (Int × Int)) (hV : View σ w) (hv : RSl 2 (REnc encSp) σ v l) (hv2 : RSl 2 (REnc encSp) σ v2 l) :
    Calls Try.prog 11 #[v, v2] w fun e w1 => e = .returned (.bool true) ∧ Grow [] σ w σ w1 := by
  refine enter Try.func11 rfl rfl rfl ?_
  obtain ⟨a, cap, rfl, h1, h2, hel⟩ := hv
  obtain ⟨a2, cap2, rfl, h3, h4, hel2⟩ := hv2
  have hS := St.start hV
  refine seq_reg ?_
  refine o_assign (v := (.bool false)) rfl ?_
  refine wpList_nil ?_
  refine then_n ?_
  refine wp_seq ?_
  refine seq_reg ?_
  refine o_move (v := (.slice a l.length cap)) rfl ?_
  refine o_len_slice rfl Try.underlying24 ?_
  refine o_move (v := (.slice a2 l.length cap2)) rfl ?_
  refine o_len_slice rfl Try.underlying24 ?_
  refine o_neq (r := (!decide (((l.length : Nat) : Int) = ((l.length : Nat) : Int)))) rfl rfl rfl ?_
  refine wpList_nil ?_
  refine then_n ?_
  refine if_nd (((l.length : Nat) : Int) = ((l.length : Nat) : Int)) rfl (fun ht1 => ?_) (fun ht1 => ?_)
  · exact absurd (by simp) ht1
  · refine wp_skip ?_
    refine then_n ?_
    refine wp_seq ?_
    refine seq_reg ?_
    refine o_assign (v := (.int .i64 (0 : Int))) rfl ?_
    refine wpList_nil ?_
    refine then_n ?_
    refine wp_block ?_
    refine loop (fun m f z => ∃ (k : Nat) (g : Fr), m = l.length - k ∧ f = (upd (upd (upd g 0 (.slice a l.length cap)) 1 (.slice a2 l.length cap2)) 5 (.int .i64 ((k : Nat) : Int))) ∧ St ⟨w, σ, []⟩ z σ [] ∧ (k ≤ l.length)) (m0 := _) ⟨0, _, rfl, (upd_in rfl (upd_in rfl (upd_in rfl rfl))), hS, Nat.zero_le _⟩ ?_
    rintro _ _ w1 ⟨k, g, rfl, rfl, hS1, hk⟩
    refine wp_seq ?_
    refine seq_reg ?_
    refine o_move (v := (.int .i64 ((k : Nat) : Int))) rfl ?_
    refine o_move (v := (.slice a l.length cap)) rfl ?_
    refine o_len_slice rfl Try.underlying24 ?_
    refine o_lss (r := (decide (((k : Nat) : Int) < ((l.length : Nat) : Int)))) rfl rfl rfl ?_
    refine wpList_nil ?_
    refine then_n ?_
    refine if_d (((k : Nat) : Int) < ((l.length : Nat) : Int)) rfl (fun ht2 => ?_) (fun ht2 => ?_)
    · refine wp_skip ?_
      refine then_n ?_
      refine wp_seq ?_
      refine wp_block ?_
      refine wp_seq ?_
      refine d_reg (fun z => St ⟨w, σ, []⟩ z σ []) (by kernel_rfl) rfl rfl ?_
      have hS2 := hS1.drew
      refine d_take (i := 0) (v := (.slice a l.length cap)) (l' := #[true, false, false, false, false, false, false, false, false]) rfl (by kernel_rfl) (by kernel_rfl) (by kernel_rfl) rfl rfl (fun _ _ _ h => h) hS2 (fun w hJ K hK => ?_) ?_
      · refine o_move (v := (.slice a l.length cap)) rfl ?_
        exact ⟨rfl, hK⟩
      refine d_take (i := 1) (v := (.int .i64 ((k : Nat) : Int))) (l' := #[true, true, false, false, false, false, false, false, false]) rfl (by kernel_rfl) (by kernel_rfl) (by kernel_rfl) rfl rfl (fun _ _ _ h => h) hS2 (fun w hJ K hK => ?_) ?_
      · refine o_move (v := (.int .i64 ((k : Nat) : Int))) rfl ?_
        exact ⟨rfl, hK⟩
      obtain ⟨x1, hx1⟩ := getq (l := l) (k := k) (by omega)
      obtain ⟨ad1, cs1, ha1, hl1, hr1, hR1⟩ := hel k _ hx1
      cases hR1
      refine d_take (i := 2) (v := (.pointer (some (ad1.add (k * 2))))) (l' := #[true, true, true, false, false, false, false, false, false]) rfl (by kernel_rfl) (by kernel_rfl) (by kernel_rfl) rfl rfl (fun _ _ _ h => h) hS2 (fun w hJ K hK => ?_) ?_
      · refine o_iaddr_slice (k := k) (a' := (ad1.add (k * 2))) (congrArg (fun z => Value.slice z _ _) ha1) rfl (by omega) (lt_of_getq hx1) Try.underlying24 Try.sizeOf37 rfl ?_
        exact ⟨rfl, hK⟩
      refine d_take (i := 3) (v := (.agg #[(.int .i64 x1.1), (.int .i64 x1.2)])) (l' := #[true, true, true, true, false, false, false, false, false]) rfl (by kernel_rfl) (by kernel_rfl) (by kernel_rfl) rfl rfl (fun _ _ _ h => h) hS2 (fun w hJ K hK => ?_) ?_
      · refine o_loadA (cs := [(.int .i64 x1.1), (.int .i64 x1.2)]) rfl Try.isAgg37 Try.sizeOf37 rfl (hr1.row hJ.view) ?_
        exact ⟨rfl, hK⟩
      refine d_take (i := 4) (v := (.slice a2 l.length cap2)) (l' := #[true, true, true, true, true, false, false, false, false]) rfl (by kernel_rfl) (by kernel_rfl) (by kernel_rfl) rfl rfl (fun _ _ _ h => h) hS2 (fun w hJ K hK => ?_) ?_
      · refine o_move (v := (.slice a2 l.length cap2)) rfl ?_
        exact ⟨rfl, hK⟩
      refine d_take (i := 5) (v := (.int .i64 ((k : Nat) : Int))) (l' := #[true, true, true, true, true, true, false, false, false]) rfl (by kernel_rfl) (by kernel_rfl) (by kernel_rfl) rfl rfl (fun _ _ _ h => h) hS2 (fun w hJ K hK => ?_) ?_
      · refine o_move (v := (.int .i64 ((k : Nat) : Int))) rfl ?_
        exact ⟨rfl, hK⟩
      obtain ⟨ad2, cs2, ha2, hl2, hr2, hR2⟩ := hel2 k _ hx1
      cases hR2
      refine d_take (i := 6) (v := (.pointer (some (ad2.add (k * 2))))) (l' := #[true, true, true, true, true, true, true, false, false]) rfl (by kernel_rfl) (by kernel_rfl) (by kernel_rfl) rfl rfl (fun _ _ _ h => h) hS2 (fun w hJ K hK => ?_) ?_
      · refine o_iaddr_slice (k := k) (a' := (ad2.add (k * 2))) (congrArg (fun z => Value.slice z _ _) ha2) rfl (by omega) (lt_of_getq hx1) Try.underlying24 Try.sizeOf37 rfl ?_
        exact ⟨rfl, hK⟩
      refine d_take (i := 7) (v := (.agg #[(.int .i64 x1.1), (.int .i64 x1.2)])) (l' := #[true, true, true, true, true, true, true, true, false]) rfl (by kernel_rfl) (by kernel_rfl) (by kernel_rfl) rfl rfl (fun _ _ _ h => h) hS2 (fun w hJ K hK => ?_) ?_
      · refine o_loadA (cs := [(.int .i64 x1.1), (.int .i64 x1.2)]) rfl Try.isAgg37 Try.sizeOf37 rfl (hr2.row hJ.view) ?_
        exact ⟨rfl, hK⟩
      refine d_take (i := 8) (v := (.bool (!decide (x1.1 = x1.1 ∧ x1.2 = x1.2)))) (l' := #[true, true, true, true, true, true, true, true, true]) rfl (by kernel_rfl) (by kernel_rfl) (by kernel_rfl) rfl rfl (fun _ _ _ h => h) hS2 (fun w hJ K hK => ?_) ?_
      · refine o_neqA (r := (!decide (x1.1 = x1.1 ∧ x1.2 = x1.2))) rfl rfl (g_37 _ _ _ _ _) (ne_37 _ _ _ _) ?_
        exact ⟨rfl, hK⟩
      refine d_done (by kernel_rfl) ?_
      refine then_n ?_
      refine if_nd (x1.1 = x1.1 ∧ x1.2 = x1.2) rfl (fun ht3 => ?_) (fun ht3 => ?_)
      · exact absurd (by simp) ht3
      · refine wp_skip ?_
        refine blk_n ?_
        refine then_n ?_
        refine one_reg ?_
        refine o_move (v := (.int .i64 ((k : Nat) : Int))) rfl ?_
        refine o_add (r := ((k + 1 : Nat) : Int)) rfl rfl (nw (by omega) (by omega) (by omega)) ?_
        refine o_assign (v := (.int .i64 ((k + 1 : Nat) : Int))) rfl ?_
        refine wpList_nil ?_
        refine then_n ?_
        exact ⟨_, _, rfl, ⟨k + 1, _, rfl, (upd_in rfl (upd_in rfl (upd_in rfl rfl))), hS2, by omega⟩, by omega⟩
    · refine wp_exit ?_
      refine then_e ?_
      refine then_e ?_
      refine blk_hit ?_
      refine then_n ?_
      refine seq_reg ?_
      refine o_assign (v := (.bool true)) rfl ?_
      refine wpList_nil ?_
      refine then_n ?_
      refine wp_ret ?_
      refine ret1 rfl (show ev _ _ _ = (.bool true) from rfl) ?_
      exact ⟨rfl, hS1.done⟩

theorem c_awake {σ : Hv} {w : World} (hV : View σ w) :
    Calls Try.prog 5 #[] w fun e w1 => e = .returned (.bool true) ∧ Grow [] σ w σ w1 := by
  refine enter Try.func5 rfl rfl rfl ?_
  have hS := St.start hV
  refine seq_reg ?_
  refine o_assign (v := (.bool false)) rfl ?_
  refine wpList_nil ?_
  refine then_n ?_
  refine seq_reg ?_
  refine o_build (v := (.agg #[(.int .i64 (5 : Int)), (.int .i64 (9 : Int))])) (fun _ => by kernel_rfl) ?_
  refine o_build (v := (.agg #[(.int .i64 (0 : Int)), (.int .i64 (5 : Int))])) (fun _ => by kernel_rfl) ?_
  refine o_build (v := (.agg #[(.int .i64 (7 : Int)), (.int .i64 (7 : Int))])) (fun _ => by kernel_rfl) ?_
  refine o_bslice (cs := [(.int .i64 (5 : Int)), (.int .i64 (9 : Int)), (.int .i64 (0 : Int)), (.int .i64 (5 : Int)), (.int .i64 (7 : Int)), (.int .i64 (7 : Int))]) (e := 37) hS (fun _ => by kernel_rfl) ?_
  intro b1 w1 hS1
  obtain ⟨σ1, hS2, hsub1, hfr1⟩ := hS1.freeze (i := 0) rfl rfl rfl
  refine o_call (args := [(.slice (some ⟨b1, 0, none⟩) 3 3)]) rfl Try.call12 (Calls.mono (c_Normal _ [(5, 9), (0, 5), (7, 7)] hS2.view (RSl.ofBlk (l := [(5, 9), (0, 5), (7, 7)]) encSp_len (vrow_blk (hS1.get (i := 0) rfl) hfr1) rfl rfl (by omega))) ?_)
  rintro _ w2 ⟨v1, σ2, rfl, hg1, hrd1⟩
  refine ⟨_, rfl, ?_⟩
  have hS3 := hS2.grow hg1
  rw [Sp.awake_runs] at hrd1
  obtain ⟨a1, cap1, rfl, h1, h2, hel1⟩ := id hrd1
  refine o_assign (v := (.slice a1 1 cap1)) rfl ?_
  refine wpList_nil ?_
  refine then_n ?_
  refine seq_reg ?_
  refine o_move (v := (.slice a1 1 cap1)) rfl ?_
  refine o_len_slice rfl Try.underlying24 ?_
  refine o_eql (r := true) rfl rfl (by decide) ?_
  refine o_move (v := (.bool true)) rfl ?_
  refine o_on rfl rfl ?_
  refine o_move (v := (.slice a1 1 cap1)) rfl ?_
  refine o_on rfl rfl ?_
  obtain ⟨ad1, cs1, ha1, hl1, hr1, hR1⟩ := hel1 0 _ (show ([(0, 9)] : List (Int × Int))[0]? = some (0, 9) from rfl)
  cases hR1
  refine o_iaddr_slice (k := 0) (a' := (ad1.add (0 * 2))) (congrArg (fun z => Value.slice z _ _) ha1) rfl (by omega) (lt_of_getq (show ([(0, 9)] : List (Int × Int))[0]? = some (0, 9) from rfl)) Try.underlying24 Try.sizeOf37 rfl ?_
  refine o_on rfl rfl ?_
  refine o_loadA (cs := [(.int .i64 ((0, 9) : Int × Int).1), (.int .i64 ((0, 9) : Int × Int).2)]) rfl Try.isAgg37 Try.sizeOf37 rfl (hr1.row hS3.view) ?_
  refine o_on rfl rfl ?_
  refine o_build (v := (.agg #[(.int .i64 (0 : Int)), (.int .i64 (9 : Int))])) (fun _ => by kernel_rfl) ?_
  refine o_on rfl rfl ?_
  refine o_eqlA (r := (decide (((0, 9) : Int × Int).1 = (0 : Int) ∧ ((0, 9) : Int × Int).2 = (9 : Int)))) rfl rfl (g_37 _ _ _ _ _) (e_37 _ _ _ _) ?_
  refine o_pick_t (v := (.bool (decide (((0, 9) : Int × Int).1 = (0 : Int) ∧ ((0, 9) : Int × Int).2 = (9 : Int))))) rfl rfl ?_
  by_cases hb1 : ((0, 9) : Int × Int).1 = (0 : Int) ∧ ((0, 9) : Int × Int).2 = (9 : Int)
  · refine o_move (v := (.bool true)) (congrArg Value.bool (decide_eq_true hb1)) ?_
    refine o_on rfl rfl ?_
    refine o_move (v := (.slice a1 1 cap1)) rfl ?_
    refine o_on rfl rfl ?_
    refine o_call (args := [(.slice a1 1 cap1)]) rfl Try.call10 (Calls.mono (c_Size _ [(0, 9)] hS3.view hrd1) ?_)
    rintro _ w3 ⟨rfl, hg2⟩
    refine ⟨_, rfl, ?_⟩
    have hS4 := hS3.grow hg2
    have hcl1 := Sp.cnt_le (Sp.cov [(0, 9)]) 10000
    refine o_on rfl rfl ?_
    refine o_eql (r := (decide (((Sp.cnt (Sp.cov [(0, 9)]) 10000 : Nat) : Int) = (9 : Int)))) rfl rfl rfl ?_
    refine o_pick_t (v := (.bool (decide (((Sp.cnt (Sp.cov [(0, 9)]) 10000 : Nat) : Int) = (9 : Int))))) rfl rfl ?_
    refine o_assign (v := (.bool (decide (((Sp.cnt (Sp.cov [(0, 9)]) 10000 : Nat) : Int) = (9 : Int))))) rfl ?_
    refine wpList_nil ?_
    refine then_n ?_
    refine wp_ret ?_
    refine ret1 rfl (show ev _ _ _ = (.bool (decide (((Sp.cnt (Sp.cov [(0, 9)]) 10000 : Nat) : Int) = (9 : Int)))) from rfl) ?_
    exact ⟨by rw [Sp.awake_cnt]; rfl, hS4.done.forget⟩
  · exact absurd (by decide) hb1


end Go.Proofs.Ytddgjdaobcbcaaa
