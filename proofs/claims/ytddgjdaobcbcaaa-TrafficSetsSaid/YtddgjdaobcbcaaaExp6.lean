/- What a call answers, and that it leaves the memory that was there as it was: flagstone/flagstoneref14.Set, flagstone/flagstoneref14.Spans, flagstone/flagstoneref14.Normal. Conditions: those of each statement (that the arguments can be read). -/
import Derived.Test.YtddgjdaobcbcaaaRows
import Derived.Test.YtddgjdaobcbcaaaFlDraw
import Derived.KernelRfl
import Derived.Test.YtddgjdaobcbcaaaExp5
namespace Go.Proofs.Ytddgjdaobcbcaaa
open Go Go.RowKit Go.Fl

theorem r_Set {σ : Hv} {w : World} (v : Value) (l : List (Int × Int)) (hV : View σ w) (hv : RSl 2 (REnc encSp) σ v l) :
    Calls Try.prog 31 #[v] w fun e w1 => ∃ v : Value, e = .returned v ∧ Grow [] σ w σ w1 ∧ (vec v 4 1 10000 (brow 10000 (Sp.cov l))).ok w1 ∧ ∀ k, (vec v 4 1 10000 (brow 10000 (Sp.cov l))).foot = some k → w.heap.size ≤ k ∧ σ k = none := by
  refine enter Try.func31 rfl rfl rfl ?_
  obtain ⟨a, cap, rfl, h1, h2, hel⟩ := hv
  have hS := St.start hV
  refine seq_reg ?_
  refine o_assign (v := (.slice none 0 0)) rfl ?_
  refine wpList_nil ?_
  refine then_n ?_
  refine seq_reg ?_
  refine o_make (bytes := 1) (k := 10000) (xs := (brow 10000 (fun i => false))) hS rfl rfl (by omega) Try.underlying47 Try.type4 rfl rfl rfl (by omega) (by unfold maxLen; omega) ((made_one _ _).trans (brow_zero _)) ?_
  intro b1 w1 hS1
  refine o_assign (v := (.slice (some ⟨b1, 0, none⟩) 10000 10000)) rfl ?_
  refine wpList_nil ?_
  refine then_n ?_
  refine wp_seq ?_
  refine seq_reg ?_
  refine o_assign (v := (.int .i64 (0 : Int))) rfl ?_
  refine wpList_nil ?_
  refine then_n ?_
  refine wp_block ?_
  refine loop (fun m f z => ∃ (k1 : Nat) (g : Fr), m = l.length - k1 ∧ f = (upd (upd (upd g 0 (.slice a l.length cap)) 3 (.slice (some ⟨b1, 0, none⟩) 10000 10000)) 4 (.int .i64 ((k1 : Nat) : Int))) ∧ St ⟨w, σ, []⟩ z σ [vec (.slice (some ⟨b1, 0, none⟩) 10000 10000) 4 1 10000 (brow 10000 (Sp.cov (l.take k1)))] ∧ (k1 ≤ l.length)) (m0 := _) ⟨0, _, rfl, (upd_in rfl (upd_in rfl (upd_in rfl rfl))), hS1, Nat.zero_le _⟩ ?_
  rintro _ _ w2 ⟨k1, g, rfl, rfl, hS2, hk1⟩
  refine wp_seq ?_
  refine seq_reg ?_
  refine o_move (v := (.int .i64 ((k1 : Nat) : Int))) rfl ?_
  refine o_move (v := (.slice a l.length cap)) rfl ?_
  refine o_len_slice rfl Try.underlying24 ?_
  refine o_lss (r := (decide (((k1 : Nat) : Int) < ((l.length : Nat) : Int)))) rfl rfl rfl ?_
  refine wpList_nil ?_
  refine then_n ?_
  refine if_d (((k1 : Nat) : Int) < ((l.length : Nat) : Int)) rfl (fun ht1 => ?_) (fun ht1 => ?_)
  · refine wp_skip ?_
    refine then_n ?_
    refine wp_seq ?_
    refine wp_block ?_
    refine seq_reg ?_
    refine o_move (v := (.slice a l.length cap)) rfl ?_
    refine o_move (v := (.int .i64 ((k1 : Nat) : Int))) rfl ?_
    obtain ⟨x1, hx1⟩ := getq (l := l) (k := k1) (by omega)
    obtain ⟨ad1, cs1, ha1, hl1, hr1, hR1⟩ := hel k1 _ hx1
    cases hR1
    refine o_iaddr_slice (k := k1) (a' := (ad1.add (k1 * 2))) (congrArg (fun z => Value.slice z _ _) ha1) rfl (by omega) (lt_of_getq hx1) Try.underlying24 Try.sizeOf37 rfl ?_
    refine o_faddr (a' := (((ad1.add (k1 * 2))).add 0)) rfl Try.underlying37 rfl Try.sizeOf3 rfl ?_
    refine o_load (v := (.int .i64 x1.1)) rfl Try.isAgg3 (hr1.cell hS2.view 0 rfl rfl) ?_
    refine o_max (r := (max x1.1 (0 : Int))) rfl rfl rfl ?_
    refine o_assign (v := (.int .i64 (max x1.1 (0 : Int)))) rfl ?_
    refine wpList_nil ?_
    refine then_n ?_
    refine wp_block ?_
    refine loop (fun m f z => ∃ (k2 : Nat) (g : Fr), m = 10000 - k2 ∧ f = (upd (upd (upd (upd g 0 (.slice a l.length cap)) 3 (.slice (some ⟨b1, 0, none⟩) 10000 10000)) 4 (.int .i64 ((k1 : Nat) : Int))) 5 (.int .i64 ((k2 : Nat) : Int))) ∧ St ⟨w, σ, []⟩ z σ [vec (.slice (some ⟨b1, 0, none⟩) 10000 10000) 4 1 10000 (brow 10000 (fun i => (Sp.cov (l.take k1) i || Sp.upto x1 k2 i)))] ∧ ((max x1.1 0) ≤ (k2 : Int))) (m0 := _) ⟨(max x1.1 0).toNat, _, rfl, (upd_in (congrArg (fun z : Int => Value.int .i64 z) (by omega)) (upd_in rfl (upd_in rfl (upd_in rfl rfl)))), (by rw [brow_congr (fun i _ => Sp.upto_start (Sp.cov (l.take k1)) x1 i)] ; exact hS2), by omega⟩ ?_
    rintro _ _ w3 ⟨k2, g, rfl, rfl, hS3, hk2⟩
    refine wp_seq ?_
    refine seq_reg ?_
    refine o_move (v := (.int .i64 ((k2 : Nat) : Int))) rfl ?_
    refine o_move (v := (.slice a l.length cap)) rfl ?_
    refine o_move (v := (.int .i64 ((k1 : Nat) : Int))) rfl ?_
    refine o_iaddr_slice (k := k1) (a' := (ad1.add (k1 * 2))) (congrArg (fun z => Value.slice z _ _) ha1) rfl (by omega) (lt_of_getq hx1) Try.underlying24 Try.sizeOf37 rfl ?_
    refine o_faddr (a' := (((ad1.add (k1 * 2))).add 1)) rfl Try.underlying37 rfl Try.sizeOf3 rfl ?_
    refine o_load (v := (.int .i64 x1.2)) rfl Try.isAgg3 (hr1.cell hS3.view 1 rfl rfl) ?_
    refine o_min (r := (min x1.2 (10000 : Int))) rfl rfl rfl ?_
    refine o_lss (r := (decide (((k2 : Nat) : Int) < (min x1.2 (10000 : Int))))) rfl rfl rfl ?_
    refine wpList_nil ?_
    refine then_n ?_
    refine if_d (((k2 : Nat) : Int) < (min x1.2 (10000 : Int))) rfl (fun ht2 => ?_) (fun ht2 => ?_)
    · refine wp_skip ?_
      refine then_n ?_
      refine wp_seq ?_
      refine wp_block ?_
      refine one_reg ?_
      refine o_move (v := (.slice (some ⟨b1, 0, none⟩) 10000 10000)) rfl ?_
      refine o_move (v := (.int .i64 ((k2 : Nat) : Int))) rfl ?_
      refine o_iaddr_slice (k := k2) (a' := ⟨b1, k2, none⟩) rfl rfl (by omega) (by omega) Try.underlying47 Try.sizeOf4 (by simp [addr_lit]) ?_
      refine o_store_vec (xs' := brow 10000 (fun i => (Sp.cov (l.take k1) i || Sp.upto x1 (k2 + 1) i))) (ms' := [vec (.slice (some ⟨b1, 0, none⟩) 10000 10000) 4 1 10000 (brow 10000 (fun i => (Sp.cov (l.take k1) i || Sp.upto x1 (k2 + 1) i)))]) (vs := [(.bool true)]) (i := 0) hS3 rfl rfl rfl Try.sizeOf4 rfl (ones rfl) rfl (by omega) ((brow_set (by omega)).trans (brow_congr (fun i _ => Sp.upto_step _ x1 k2 i (by omega) (by omega)))) rfl ?_
      intro w4 hS4
      refine wpList_nil ?_
      refine blk_n ?_
      refine then_n ?_
      refine one_reg ?_
      refine o_move (v := (.int .i64 ((k2 : Nat) : Int))) rfl ?_
      refine o_add (r := ((k2 + 1 : Nat) : Int)) rfl rfl (nw (by omega) (by omega) (by omega)) ?_
      refine o_assign (v := (.int .i64 ((k2 + 1 : Nat) : Int))) rfl ?_
      refine wpList_nil ?_
      refine then_n ?_
      exact ⟨_, _, rfl, ⟨k2 + 1, _, rfl, (upd_in rfl (upd_in rfl (upd_in rfl (upd_in rfl rfl)))), hS4, by omega⟩, by omega⟩
    · refine wp_exit ?_
      refine then_e ?_
      refine then_e ?_
      refine blk_hit ?_
      refine blk_n ?_
      refine then_n ?_
      refine one_reg ?_
      refine o_move (v := (.int .i64 ((k1 : Nat) : Int))) rfl ?_
      refine o_add (r := ((k1 + 1 : Nat) : Int)) rfl rfl (nw (by omega) (by omega) (by omega)) ?_
      refine o_assign (v := (.int .i64 ((k1 + 1 : Nat) : Int))) rfl ?_
      refine wpList_nil ?_
      refine then_n ?_
      exact ⟨_, _, rfl, ⟨k1 + 1, _, rfl, (upd_in rfl (upd_in rfl (upd_in rfl rfl))), (by rw [take_snoc hx1, brow_congr (fun i hi => (Sp.cov_fill (l.take k1) x1 k2 i hi (by omega)).symm)]; exact hS3), by have := lt_of_getq hx1; omega⟩, by have := lt_of_getq hx1; omega⟩
  · refine wp_exit ?_
    refine then_e ?_
    refine then_e ?_
    refine blk_hit ?_
    refine then_n ?_
    refine seq_reg ?_
    refine o_move (v := (.slice (some ⟨b1, 0, none⟩) 10000 10000)) rfl ?_
    refine o_assign (v := (.slice (some ⟨b1, 0, none⟩) 10000 10000)) rfl ?_
    refine wpList_nil ?_
    refine then_n ?_
    refine wp_ret ?_
    refine ret1 rfl (show ev _ _ _ = (.slice (some ⟨b1, 0, none⟩) 10000 10000) from rfl) ?_
    rw [List.take_of_length_le (show l.length ≤ k1 by omega)] at hS2
    exact ⟨(.slice (some ⟨b1, 0, none⟩) 10000 10000), rfl, hS2.done, hS2.get (i := 0) rfl, fresh_foot hS2 rfl (i := 0) rfl⟩

theorem r_Spans {σ : Hv} {w : World} (v : Value) (p : Nat → Bool) (hV : View σ w) (hv : RBr 10000 σ v p) :
    Calls Try.prog 30 #[v] w fun e w1 => ∃ (v : Value) (σ1 : Hv), e = .returned v ∧ Grow [] σ w σ1 w1 ∧ RSl 2 (REnc encSp) σ1 v (Sp.runs p 10000) := by
  refine enter Try.func30 rfl rfl rfl ?_
  obtain ⟨gb, cap, rfl, hp⟩ := hv
  have hS := St.start hV
  refine seq_reg ?_
  refine o_assign (v := (.slice none 0 0)) rfl ?_
  refine wpList_nil ?_
  refine then_n ?_
  refine seq_reg ?_
  refine o_assign (v := (.slice none 0 0)) rfl ?_
  refine wpList_nil ?_
  refine then_n ?_
  refine wp_seq ?_
  refine seq_reg ?_
  refine o_assign (v := (.int .i64 (0 : Int))) rfl ?_
  refine wpList_nil ?_
  refine then_n ?_
  refine wp_block ?_
  have hSn := hS.addNil 37 2
  refine loop (fun m f z => ∃ (k : Nat) (v : Value) (g : Fr), m = 10000 - k ∧ f = (upd (upd (upd g 0 (.slice (some ⟨gb, 0, none⟩) 10000 cap)) 3 v) 4 (.int .i64 ((k : Nat) : Int))) ∧ St ⟨w, σ, []⟩ z σ [vec v 37 2 ((Sp.runs p k).length) ((Sp.runs p k).flatMap encSp)] ∧ (v.oneCell' = true) ∧ (k ≤ 10000)) (m0 := _) ⟨0, _, _, rfl, (upd_in rfl (upd_in rfl (upd_in rfl rfl))), hSn, rfl, Nat.zero_le _⟩ ?_
  rintro _ _ w1 ⟨k, v, g, rfl, rfl, hS1, hone, hk⟩
  have hrl := Sp.runs_len p k
  refine wp_seq ?_
  refine seq_reg ?_
  refine o_move (v := (.int .i64 ((k : Nat) : Int))) rfl ?_
  refine o_move (v := (.slice (some ⟨gb, 0, none⟩) 10000 cap)) rfl ?_
  refine o_len_slice rfl Try.underlying47 ?_
  refine o_lss (r := (decide (((k : Nat) : Int) < (10000 : Int)))) rfl rfl rfl ?_
  refine wpList_nil ?_
  refine then_n ?_
  refine if_d (((k : Nat) : Int) < (10000 : Int)) rfl (fun ht1 => ?_) (fun ht1 => ?_)
  · refine wp_skip ?_
    refine then_n ?_
    refine wp_seq ?_
    refine wp_block ?_
    refine wp_block ?_
    refine seq_reg ?_
    refine o_move (v := (.slice (some ⟨gb, 0, none⟩) 10000 cap)) rfl ?_
    refine o_move (v := (.int .i64 ((k : Nat) : Int))) rfl ?_
    refine o_iaddr_slice (k := k) (a' := ⟨gb, k, none⟩) rfl rfl (by omega) (by omega) Try.underlying47 Try.sizeOf4 (by simp [addr_lit]) ?_
    refine o_load (v := (.bool (p k))) rfl Try.isAgg4 (hp.cell hS1.view k (brow_at (by omega)) (addr0 _ _)) ?_
    refine o_not (r := (!p k)) rfl rfl ?_
    refine o_assign (v := (.bool (!p k))) rfl ?_
    refine wpList_nil ?_
    refine then_n ?_
    refine if_nb rfl (fun ht2 => ?_) (fun ht2 => ?_)
    · refine wp_skip ?_
      refine blk_n ?_
      refine blk_n ?_
      refine then_n ?_
      refine one_reg ?_
      refine o_move (v := (.int .i64 ((k : Nat) : Int))) rfl ?_
      refine o_add (r := ((k + 1 : Nat) : Int)) rfl rfl (nw (by omega) (by omega) (by omega)) ?_
      refine o_assign (v := (.int .i64 ((k + 1 : Nat) : Int))) rfl ?_
      refine wpList_nil ?_
      refine then_n ?_
      have hE := Sp.runs_no ht2
      exact ⟨_, _, rfl, ⟨k + 1, v, _, rfl, (upd_in rfl (upd_in rfl (upd_in rfl rfl))), (by rw [hE]; simpa using hS1), hone, by omega⟩, by omega⟩
    · refine seq_reg ?_
      refine o_move (v := (.int .i64 ((k : Nat) : Int))) rfl ?_
      refine o_gtr (r := (decide ((0 : Int) < ((k : Nat) : Int)))) rfl rfl rfl ?_
      by_cases hb1 : (0 : Int) < ((k : Nat) : Int)
      · refine o_move (v := (.bool true)) (congrArg Value.bool (decide_eq_true hb1)) ?_
        refine o_on rfl rfl ?_
        refine o_move (v := (.slice (some ⟨gb, 0, none⟩) 10000 cap)) rfl ?_
        refine o_on rfl rfl ?_
        refine o_move (v := (.int .i64 ((k : Nat) : Int))) rfl ?_
        refine o_on rfl rfl ?_
        refine o_sub (r := (((k : Nat) : Int) - (1 : Int))) rfl rfl (nw (by omega) (by omega) (by omega)) ?_
        refine o_on rfl rfl ?_
        refine o_iaddr_slice (k := (k - 1)) (a' := ⟨gb, (k - 1), none⟩) rfl rfl (by omega) (by omega) Try.underlying47 Try.sizeOf4 (by simp [addr_lit]) ?_
        refine o_on rfl rfl ?_
        refine o_load (v := (.bool (p (k - 1)))) rfl Try.isAgg4 (hp.cell hS1.view (k - 1) (brow_at (by omega)) (addr0 _ _)) ?_
        refine o_pick_t (v := (.bool (p (k - 1)))) rfl rfl ?_
        refine o_assign (v := (.bool (p (k - 1)))) rfl ?_
        refine wpList_nil ?_
        refine then_n ?_
        refine if_b rfl (fun ht3 => ?_) (fun ht3 => ?_)
        · obtain ⟨xl1, hxl1, hl1⟩ := Sp.runs_prev (p := p) (k := k) (by omega) ht3
          have hlt := lt_of_getq hxl1
          refine one_reg ?_
          refine o_move (v := v) rfl ?_
          refine o_move (v := v) rfl ?_
          refine o_len_vec hS1 rfl (i := 0) rfl Try.underlying24 ?_
          refine o_sub (r := ((((Sp.runs p k).length : Nat) : Int) - (1 : Int))) rfl rfl (nw (by omega) (by omega) (by omega)) ?_
          refine o_move (v := (.int .i64 ((k : Nat) : Int))) rfl ?_
          refine o_add (r := ((k + 1 : Nat) : Int)) rfl rfl (nw (by omega) (by omega) (by omega)) ?_
          obtain ⟨g1, cp1, rfl⟩ := vec_pos (hS1.get (i := 0) rfl) (by omega)
          refine o_iaddr_slice (k := ((Sp.runs p k).length - 1)) (a' := ⟨g1, ((Sp.runs p k).length - 1) * 2, none⟩) rfl rfl (by omega) (by omega) Try.underlying24 Try.sizeOf37 (by simp [addr_lit]) ?_
          refine o_faddr (a' := ⟨g1, ((Sp.runs p k).length - 1) * 2 + 1, none⟩) rfl Try.underlying37 rfl Try.sizeOf3 rfl ?_
          refine o_store_vec (xs' := ((Sp.runs p k).set ((Sp.runs p k).length - 1) (xl1.1, ((k + 1 : Nat) : Int))).flatMap encSp) (ms' := [vec (.slice (some ⟨g1, 0, none⟩) (Sp.runs p k).length cp1) 37 2 ((Sp.runs p k).length) (((Sp.runs p k).set ((Sp.runs p k).length - 1) (xl1.1, ((k + 1 : Nat) : Int))).flatMap encSp)]) (vs := [(.int .i64 ((k + 1 : Nat) : Int))]) (i := 0) hS1 rfl rfl rfl Try.sizeOf3 rfl (ones rfl) rfl (by omega) (flat_set encSp_len hxl1 rfl (Nat.le_of_ble_eq_true rfl)) rfl ?_
          intro w2 hS2
          refine wpList_nil ?_
          refine blk_n ?_
          refine blk_n ?_
          refine then_n ?_
          refine one_reg ?_
          refine o_move (v := (.int .i64 ((k : Nat) : Int))) rfl ?_
          refine o_add (r := ((k + 1 : Nat) : Int)) rfl rfl (nw (by omega) (by omega) (by omega)) ?_
          refine o_assign (v := (.int .i64 ((k + 1 : Nat) : Int))) rfl ?_
          refine wpList_nil ?_
          refine then_n ?_
          have hE := Sp.runs_ext ht2 hxl1 hl1
          exact ⟨_, _, rfl, ⟨k + 1, (.slice (some ⟨g1, 0, none⟩) (Sp.runs p k).length cp1), _, rfl, (upd_in rfl (upd_in rfl (upd_in rfl rfl))), (by rw [hE]; simpa using hS2), rfl, by omega⟩, by omega⟩
        · refine one_reg ?_
          refine o_move (v := v) rfl ?_
          refine o_move (v := (.int .i64 ((k : Nat) : Int))) rfl ?_
          refine o_move (v := (.int .i64 ((k : Nat) : Int))) rfl ?_
          refine o_add (r := ((k + 1 : Nat) : Int)) rfl rfl (nw (by omega) (by omega) (by omega)) ?_
          refine o_build (v := (.agg #[(.int .i64 ((k : Nat) : Int)), (.int .i64 ((k + 1 : Nat) : Int))])) (fun _ => by kernel_rfl) ?_
          refine o_bslice (cs := [(.int .i64 ((k : Nat) : Int)), (.int .i64 ((k + 1 : Nat) : Int))]) (e := 37) hS1 (fun _ => by kernel_rfl) ?_
          intro b1 w3 hS3
          refine o_append (Ms := fun v1 => [blk b1 37 [(.int .i64 ((k : Nat) : Int)), (.int .i64 ((k + 1 : Nat) : Int))], vec v1 37 2 ((Sp.runs p k).length + 1) ((Sp.runs p k ++ [(((k : Nat) : Int), ((k + 1 : Nat) : Int))]).flatMap encSp)]) (xs' := (Sp.runs p k ++ [(((k : Nat) : Int), ((k + 1 : Nat) : Int))]).flatMap encSp) Try.underlying24 Try.type37 rfl rfl (bytes := 16) rfl rfl (Nat.succ_pos _) hS3 rfl (q := 1) rfl rfl rfl (blk_row (hS3.get (i := 0) rfl)) (ones rfl) (by omega) (by unfold maxLen; omega) (flat_snoc _ (((k : Nat) : Int), ((k + 1 : Nat) : Int))) (fun _ => rfl) ?_
          intro v1 w4 ho1 hS4
          have hS5 := hS4.drop 0 (ms' := [vec v1 37 2 ((Sp.runs p k).length + 1) ((Sp.runs p k ++ [(((k : Nat) : Int), ((k + 1 : Nat) : Int))]).flatMap encSp)]) rfl
          refine o_assign (v := v1) rfl ?_
          refine wpList_nil ?_
          refine blk_n ?_
          refine blk_n ?_
          refine then_n ?_
          refine one_reg ?_
          refine o_move (v := (.int .i64 ((k : Nat) : Int))) rfl ?_
          refine o_add (r := ((k + 1 : Nat) : Int)) rfl rfl (nw (by omega) (by omega) (by omega)) ?_
          refine o_assign (v := (.int .i64 ((k + 1 : Nat) : Int))) rfl ?_
          refine wpList_nil ?_
          refine then_n ?_
          have hE := Sp.runs_new ht2 (Sp.runs_noprev (by rintro ⟨h1, h2⟩; first | omega | simp_all))
          exact ⟨_, _, rfl, ⟨k + 1, v1, _, rfl, (upd_in rfl (upd_in rfl (upd_in rfl rfl))), (by rw [hE]; simpa using hS5), ho1, by omega⟩, by omega⟩
      · refine o_move (v := (.bool false)) (congrArg Value.bool (decide_eq_false hb1)) ?_
        refine o_off rfl rfl ?_
        refine o_off rfl rfl ?_
        refine o_off rfl rfl ?_
        refine o_off rfl rfl ?_
        refine o_off rfl rfl ?_
        refine o_pick_f (v := (.bool false)) rfl rfl ?_
        refine o_assign (v := (.bool false)) rfl ?_
        refine wpList_nil ?_
        refine then_n ?_
        refine if_f rfl ?_
        refine one_reg ?_
        refine o_move (v := v) rfl ?_
        refine o_move (v := (.int .i64 ((k : Nat) : Int))) rfl ?_
        refine o_move (v := (.int .i64 ((k : Nat) : Int))) rfl ?_
        refine o_add (r := ((k + 1 : Nat) : Int)) rfl rfl (nw (by omega) (by omega) (by omega)) ?_
        refine o_build (v := (.agg #[(.int .i64 ((k : Nat) : Int)), (.int .i64 ((k + 1 : Nat) : Int))])) (fun _ => by kernel_rfl) ?_
        refine o_bslice (cs := [(.int .i64 ((k : Nat) : Int)), (.int .i64 ((k + 1 : Nat) : Int))]) (e := 37) hS1 (fun _ => by kernel_rfl) ?_
        intro b2 w5 hS6
        refine o_append (Ms := fun v2 => [blk b2 37 [(.int .i64 ((k : Nat) : Int)), (.int .i64 ((k + 1 : Nat) : Int))], vec v2 37 2 ((Sp.runs p k).length + 1) ((Sp.runs p k ++ [(((k : Nat) : Int), ((k + 1 : Nat) : Int))]).flatMap encSp)]) (xs' := (Sp.runs p k ++ [(((k : Nat) : Int), ((k + 1 : Nat) : Int))]).flatMap encSp) Try.underlying24 Try.type37 rfl rfl (bytes := 16) rfl rfl (Nat.succ_pos _) hS6 rfl (q := 1) rfl rfl rfl (blk_row (hS6.get (i := 0) rfl)) (ones rfl) (by omega) (by unfold maxLen; omega) (flat_snoc _ (((k : Nat) : Int), ((k + 1 : Nat) : Int))) (fun _ => rfl) ?_
        intro v2 w6 ho2 hS7
        have hS8 := hS7.drop 0 (ms' := [vec v2 37 2 ((Sp.runs p k).length + 1) ((Sp.runs p k ++ [(((k : Nat) : Int), ((k + 1 : Nat) : Int))]).flatMap encSp)]) rfl
        refine o_assign (v := v2) rfl ?_
        refine wpList_nil ?_
        refine blk_n ?_
        refine blk_n ?_
        refine then_n ?_
        refine one_reg ?_
        refine o_move (v := (.int .i64 ((k : Nat) : Int))) rfl ?_
        refine o_add (r := ((k + 1 : Nat) : Int)) rfl rfl (nw (by omega) (by omega) (by omega)) ?_
        refine o_assign (v := (.int .i64 ((k + 1 : Nat) : Int))) rfl ?_
        refine wpList_nil ?_
        refine then_n ?_
        have hE := Sp.runs_new ht2 (Sp.runs_noprev (by rintro ⟨h1, h2⟩; first | omega | simp_all))
        exact ⟨_, _, rfl, ⟨k + 1, v2, _, rfl, (upd_in rfl (upd_in rfl (upd_in rfl rfl))), (by rw [hE]; simpa using hS8), ho2, by omega⟩, by omega⟩
  · refine wp_exit ?_
    refine then_e ?_
    refine then_e ?_
    refine blk_hit ?_
    refine then_n ?_
    refine seq_reg ?_
    refine o_move (v := v) rfl ?_
    refine o_assign (v := v) rfl ?_
    refine wpList_nil ?_
    refine then_n ?_
    refine wp_ret ?_
    refine ret1 rfl (show ev _ _ _ = v from rfl) ?_
    obtain ⟨σ1, hS9, hsub1, hfr1⟩ := hS1.freeze (i := 0) rfl rfl rfl
    obtain rfl : k = 10000 := by omega
    have hb := Sp.runs_len p 10000
    exact ⟨v, σ1, rfl, hS9.done, RSl.ofVecEnc encSp_len (hS1.get (i := 0) rfl) hfr1 rfl (by omega)⟩

theorem r_Normal {σ : Hv} {w : World} (a : Value) (la : List (Int × Int)) (hV : View σ w) (ha : RSl 2 (REnc encSp) σ a la) :
    Calls Try.prog 14 #[a] w fun e w1 => ∃ (v : Value) (σ1 : Hv), e = .returned v ∧ Grow [] σ w σ1 w1 ∧ RSl 2 (REnc encSp) σ1 v (Sp.runs (Sp.cov la) 10000) := by
  refine enter Try.func14 rfl rfl rfl ?_
  have hS := St.start hV
  obtain ⟨xa, ca, ea⟩ := ha.shape
  subst ea
  refine seq_reg ?_
  refine o_assign (v := (.slice none 0 0)) rfl ?_
  refine wpList_nil ?_
  refine then_n ?_
  refine seq_reg ?_
  refine o_move (v := (.slice xa la.length ca)) rfl ?_
  refine o_call (args := [(.slice xa la.length ca)]) rfl Try.call31 (Calls.mono (r_Set _ la hS.view ha) ?_)
  rintro _ w1 ⟨v1, rfl, hg1, ho1⟩
  refine ⟨_, rfl, ?_⟩
  obtain ⟨gs1, cp1, rfl⟩ := vec_pos ho1.1 (by omega)
  have hS1 := hS.growAdd hg1 ho1
  obtain ⟨σ1, hS2, hsub1, hfr1⟩ := hS1.freeze (i := 0) rfl rfl rfl
  refine o_call (args := [(.slice (some ⟨gs1, 0, none⟩) 10000 cp1)]) rfl Try.call30 (Calls.mono (r_Spans _ (Sp.cov la) hS2.view (RBr.ofVec (hS1.get (i := 0) rfl) (by omega) hfr1)) ?_)
  rintro _ w2 ⟨v2, σ2, rfl, hg2, hrd1⟩
  refine ⟨_, rfl, ?_⟩
  have hS3 := hS2.grow hg2
  obtain ⟨xa1, ca1, he1⟩ := hrd1.shape
  subst he1
  refine o_assign (v := (.slice xa1 ((Sp.runs (Sp.cov la) 10000)).length ca1)) rfl ?_
  refine wpList_nil ?_
  refine then_n ?_
  refine wp_ret ?_
  refine ret1 rfl (show ev _ _ _ = (.slice xa1 ((Sp.runs (Sp.cov la) 10000)).length ca1) from rfl) ?_
  have hE : Sp.runs (Sp.cov la) 10000 = (Sp.runs (Sp.cov la) 10000) := Sp.runs_congr (fun i hi => rfl)
  exact ⟨(.slice xa1 ((Sp.runs (Sp.cov la) 10000)).length ca1), σ2, rfl, hS3.done, by rw [hE]; exact hrd1⟩


end Go.Proofs.Ytddgjdaobcbcaaa
