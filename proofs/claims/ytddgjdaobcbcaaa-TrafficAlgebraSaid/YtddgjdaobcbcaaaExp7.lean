/- What a call answers, and that it leaves the memory that was there as it was: flagstone/flagstoneref14.Union, flagstone/flagstoneref14.Minus, flagstone/flagstoneref14.Common, flagstone/flagstoneref14.First, flagstone/flagstoneref14.Size. Conditions: those of each statement (that the arguments can be read). -/
import Derived.Test.YtddgjdaobcbcaaaRows
import Derived.Test.YtddgjdaobcbcaaaFlDraw
import Derived.KernelRfl
import Derived.Test.YtddgjdaobcbcaaaExp6
namespace Go.Proofs.Ytddgjdaobcbcaaa
open Go Go.RowKit Go.Fl

theorem r_Union {σ : Hv} {w : World} (a : Value) (b : Value) (la : List (Int × Int)) (lb : List (Int × Int)) (hV : View σ w) (ha : RSl 2 (REnc encSp) σ a la) (hb : RSl 2 (REnc encSp) σ b lb) :
    Calls Try.prog 15 #[a, b] w fun e w1 => ∃ (v : Value) (σ1 : Hv), e = .returned v ∧ Grow [] σ w σ1 w1 ∧ RSl 2 (REnc encSp) σ1 v (Sp.runs (fun i => Sp.cov la i || Sp.cov lb i) 10000) := by
  refine enter Try.func15 rfl rfl rfl ?_
  have hS := St.start hV
  obtain ⟨xa, ca, ea⟩ := ha.shape
  subst ea
  obtain ⟨xb, cb, eb⟩ := hb.shape
  subst eb
  refine seq_reg ?_
  refine o_assign (v := (.slice none 0 0)) rfl ?_
  refine wpList_nil ?_
  refine then_n ?_
  refine seq_reg ?_
  refine o_move (v := (.slice xa la.length ca)) rfl ?_
  refine o_call (args := [(.slice xa la.length ca)]) rfl Try.call31 (Calls.mono (r_Set _ la hS.view ha) ?_)
  rintro _ w1 ⟨v1, rfl, hg1, ho1⟩
  refine ⟨_, rfl, ?_⟩
  obtain ⟨gs1, cp1, rfl⟩ := vec_pos ho1.1 (by omega)
  have hS1 := hS.growAdd hg1 ho1
  refine o_move (v := (.slice xb lb.length cb)) rfl ?_
  refine o_call (args := [(.slice xb lb.length cb)]) rfl Try.call31 (Calls.mono (r_Set _ lb hS1.view hb) ?_)
  rintro _ w2 ⟨v2, rfl, hg2, ho2⟩
  refine ⟨_, rfl, ?_⟩
  obtain ⟨gs2, cp2, rfl⟩ := vec_pos ho2.1 (by omega)
  have hS2 := hS1.growAdd hg2 ho2
  refine o_assign (v := (.slice (some ⟨gs1, 0, none⟩) 10000 cp1)) rfl ?_
  refine o_assign (v := (.slice (some ⟨gs2, 0, none⟩) 10000 cp2)) rfl ?_
  refine wpList_nil ?_
  refine then_n ?_
  refine wp_seq ?_
  refine seq_reg ?_
  refine o_assign (v := (.int .i64 (0 : Int))) rfl ?_
  refine wpList_nil ?_
  refine then_n ?_
  refine wp_block ?_
  refine loop (fun m f z => ∃ (k : Nat) (g : Fr), m = 10000 - k ∧ f = (upd (upd (upd g 5 (.slice (some ⟨gs1, 0, none⟩) 10000 cp1)) 6 (.slice (some ⟨gs2, 0, none⟩) 10000 cp2)) 7 (.int .i64 ((k : Nat) : Int))) ∧ St ⟨w, σ, []⟩ z σ [vec (.slice (some ⟨gs2, 0, none⟩) 10000 cp2) 4 1 10000 (brow 10000 (Sp.cov lb)), vec (.slice (some ⟨gs1, 0, none⟩) 10000 cp1) 4 1 10000 (brow 10000 (Sp.mix k (Sp.cov la) (fun i => Sp.cov la i || Sp.cov lb i)))] ∧ (k ≤ 10000)) (m0 := _) ⟨0, _, rfl, (upd_in rfl (upd_in rfl (upd_in rfl rfl))), hS2, Nat.zero_le _⟩ ?_
  rintro _ _ w3 ⟨k, g, rfl, rfl, hS3, hk⟩
  refine wp_seq ?_
  refine seq_reg ?_
  refine o_move (v := (.int .i64 ((k : Nat) : Int))) rfl ?_
  refine o_move (v := (.slice (some ⟨gs1, 0, none⟩) 10000 cp1)) rfl ?_
  refine o_len_slice rfl Try.underlying47 ?_
  refine o_lss (r := (decide (((k : Nat) : Int) < (10000 : Int)))) rfl rfl rfl ?_
  refine wpList_nil ?_
  refine then_n ?_
  refine if_d (((k : Nat) : Int) < (10000 : Int)) rfl (fun ht1 => ?_) (fun ht1 => ?_)
  · refine wp_skip ?_
    refine then_n ?_
    refine wp_seq ?_
    refine wp_block ?_
    refine one_reg ?_
    refine o_move (v := (.slice (some ⟨gs1, 0, none⟩) 10000 cp1)) rfl ?_
    refine o_move (v := (.int .i64 ((k : Nat) : Int))) rfl ?_
    refine o_move (v := (.slice (some ⟨gs1, 0, none⟩) 10000 cp1)) rfl ?_
    refine o_move (v := (.int .i64 ((k : Nat) : Int))) rfl ?_
    refine o_iaddr_slice (k := k) (a' := ⟨gs1, k, none⟩) rfl rfl (by omega) (by omega) Try.underlying47 Try.sizeOf4 (by simp [addr_lit]) ?_
    refine o_load (v := (.bool (Sp.mix k (Sp.cov la) (fun i => Sp.cov la i || Sp.cov lb i) k))) rfl Try.isAgg4 ((vec_row (hS3.get (i := 1) rfl)).cell k (brow_at (by omega)) (addr0 _ _)) ?_
    rcases Bool.eq_false_or_eq_true (Sp.mix k (Sp.cov la) (fun i => Sp.cov la i || Sp.cov lb i) k) with hb1 | hb1
    · have hmx1 := (Sp.mix_at _ _ _).symm.trans hb1
      refine o_move (v := (.bool true)) (congrArg Value.bool hb1) ?_
      refine o_off rfl rfl ?_
      refine o_off rfl rfl ?_
      refine o_off rfl rfl ?_
      refine o_off rfl rfl ?_
      refine o_pick_t (v := (.bool true)) rfl rfl ?_
      refine o_iaddr_slice (k := k) (a' := ⟨gs1, k, none⟩) rfl rfl (by omega) (by omega) Try.underlying47 Try.sizeOf4 (by simp [addr_lit]) ?_
      refine o_store_vec (xs' := brow 10000 (Sp.mix (k + 1) (Sp.cov la) (fun i => Sp.cov la i || Sp.cov lb i))) (ms' := [vec (.slice (some ⟨gs2, 0, none⟩) 10000 cp2) 4 1 10000 (brow 10000 (Sp.cov lb)), vec (.slice (some ⟨gs1, 0, none⟩) 10000 cp1) 4 1 10000 (brow 10000 (Sp.mix (k + 1) (Sp.cov la) (fun i => Sp.cov la i || Sp.cov lb i)))]) (vs := [(.bool true)]) (i := 1) hS3 rfl rfl rfl Try.sizeOf4 rfl (ones rfl) rfl (by omega) ((brow_set (by omega)).trans (brow_congr (fun i _ => Sp.mix_step (by simp [hmx1]) i))) rfl ?_
      intro w4 hS4
      refine wpList_nil ?_
      refine blk_n ?_
      refine then_n ?_
      refine one_reg ?_
      refine o_move (v := (.int .i64 ((k : Nat) : Int))) rfl ?_
      refine o_add (r := ((k + 1 : Nat) : Int)) rfl rfl (nw (by omega) (by omega) (by omega)) ?_
      refine o_assign (v := (.int .i64 ((k + 1 : Nat) : Int))) rfl ?_
      refine wpList_nil ?_
      refine then_n ?_
      exact ⟨_, _, rfl, ⟨k + 1, _, rfl, (upd_in rfl (upd_in rfl (upd_in rfl rfl))), hS4, by omega⟩, by omega⟩
    · have hmx2 := (Sp.mix_at _ _ _).symm.trans hb1
      refine o_move (v := (.bool false)) (congrArg Value.bool hb1) ?_
      refine o_on rfl rfl ?_
      refine o_move (v := (.slice (some ⟨gs2, 0, none⟩) 10000 cp2)) rfl ?_
      refine o_on rfl rfl ?_
      refine o_move (v := (.int .i64 ((k : Nat) : Int))) rfl ?_
      refine o_on rfl rfl ?_
      refine o_iaddr_slice (k := k) (a' := ⟨gs2, k, none⟩) rfl rfl (by omega) (by omega) Try.underlying47 Try.sizeOf4 (by simp [addr_lit]) ?_
      refine o_on rfl rfl ?_
      refine o_load (v := (.bool (Sp.cov lb k))) rfl Try.isAgg4 ((vec_row (hS3.get (i := 0) rfl)).cell k (brow_at (by omega)) (addr0 _ _)) ?_
      refine o_pick_f (v := (.bool (Sp.cov lb k))) rfl rfl ?_
      refine o_iaddr_slice (k := k) (a' := ⟨gs1, k, none⟩) rfl rfl (by omega) (by omega) Try.underlying47 Try.sizeOf4 (by simp [addr_lit]) ?_
      refine o_store_vec (xs' := brow 10000 (Sp.mix (k + 1) (Sp.cov la) (fun i => Sp.cov la i || Sp.cov lb i))) (ms' := [vec (.slice (some ⟨gs2, 0, none⟩) 10000 cp2) 4 1 10000 (brow 10000 (Sp.cov lb)), vec (.slice (some ⟨gs1, 0, none⟩) 10000 cp1) 4 1 10000 (brow 10000 (Sp.mix (k + 1) (Sp.cov la) (fun i => Sp.cov la i || Sp.cov lb i)))]) (vs := [(.bool (Sp.cov lb k))]) (i := 1) hS3 rfl rfl rfl Try.sizeOf4 rfl (ones rfl) rfl (by omega) ((brow_set (by omega)).trans (brow_congr (fun i _ => Sp.mix_step (by simp [hmx2]) i))) rfl ?_
      intro w5 hS5
      refine wpList_nil ?_
      refine blk_n ?_
      refine then_n ?_
      refine one_reg ?_
      refine o_move (v := (.int .i64 ((k : Nat) : Int))) rfl ?_
      refine o_add (r := ((k + 1 : Nat) : Int)) rfl rfl (nw (by omega) (by omega) (by omega)) ?_
      refine o_assign (v := (.int .i64 ((k + 1 : Nat) : Int))) rfl ?_
      refine wpList_nil ?_
      refine then_n ?_
      exact ⟨_, _, rfl, ⟨k + 1, _, rfl, (upd_in rfl (upd_in rfl (upd_in rfl rfl))), hS5, by omega⟩, by omega⟩
  · refine wp_exit ?_
    refine then_e ?_
    refine then_e ?_
    refine blk_hit ?_
    refine then_n ?_
    refine seq_reg ?_
    refine o_move (v := (.slice (some ⟨gs1, 0, none⟩) 10000 cp1)) rfl ?_
    obtain ⟨σ1, hS6, hsub1, hfr1⟩ := hS3.freeze (i := 1) rfl rfl rfl
    refine o_call (args := [(.slice (some ⟨gs1, 0, none⟩) 10000 cp1)]) rfl Try.call30 (Calls.mono (r_Spans _ (Sp.mix k (Sp.cov la) (fun i => Sp.cov la i || Sp.cov lb i)) hS6.view (RBr.ofVec (hS3.get (i := 1) rfl) (by omega) hfr1)) ?_)
    rintro _ w6 ⟨v3, σ2, rfl, hg3, hrd1⟩
    refine ⟨_, rfl, ?_⟩
    have hS7 := hS6.grow hg3
    obtain ⟨xa1, ca1, he1⟩ := hrd1.shape
    subst he1
    refine o_assign (v := (.slice xa1 ((Sp.runs (Sp.mix k (Sp.cov la) (fun i => Sp.cov la i || Sp.cov lb i)) 10000)).length ca1)) rfl ?_
    refine wpList_nil ?_
    refine then_n ?_
    refine wp_ret ?_
    refine ret1 rfl (show ev _ _ _ = (.slice xa1 ((Sp.runs (Sp.mix k (Sp.cov la) (fun i => Sp.cov la i || Sp.cov lb i)) 10000)).length ca1) from rfl) ?_
    have hE : Sp.runs (fun i => Sp.cov la i || Sp.cov lb i) 10000 = (Sp.runs (Sp.mix k (Sp.cov la) (fun i => Sp.cov la i || Sp.cov lb i)) 10000) := Sp.runs_congr (fun i hi => (Sp.mix_all (p := Sp.cov la) (q := (fun i => Sp.cov la i || Sp.cov lb i)) (show i < k by omega)).symm)
    exact ⟨(.slice xa1 ((Sp.runs (Sp.mix k (Sp.cov la) (fun i => Sp.cov la i || Sp.cov lb i)) 10000)).length ca1), σ2, rfl, hS7.done, by rw [hE]; exact hrd1⟩

theorem r_Minus {σ : Hv} {w : World} (a : Value) (b : Value) (la : List (Int × Int)) (lb : List (Int × Int)) (hV : View σ w) (ha : RSl 2 (REnc encSp) σ a la) (hb : RSl 2 (REnc encSp) σ b lb) :
    Calls Try.prog 16 #[a, b] w fun e w1 => ∃ (v : Value) (σ1 : Hv), e = .returned v ∧ Grow [] σ w σ1 w1 ∧ RSl 2 (REnc encSp) σ1 v (Sp.runs (fun i => Sp.cov la i && !Sp.cov lb i) 10000) := by
  refine enter Try.func16 rfl rfl rfl ?_
  have hS := St.start hV
  obtain ⟨xa, ca, ea⟩ := ha.shape
  subst ea
  obtain ⟨xb, cb, eb⟩ := hb.shape
  subst eb
  refine seq_reg ?_
  refine o_assign (v := (.slice none 0 0)) rfl ?_
  refine wpList_nil ?_
  refine then_n ?_
  refine seq_reg ?_
  refine o_move (v := (.slice xa la.length ca)) rfl ?_
  refine o_call (args := [(.slice xa la.length ca)]) rfl Try.call31 (Calls.mono (r_Set _ la hS.view ha) ?_)
  rintro _ w1 ⟨v1, rfl, hg1, ho1⟩
  refine ⟨_, rfl, ?_⟩
  obtain ⟨gs1, cp1, rfl⟩ := vec_pos ho1.1 (by omega)
  have hS1 := hS.growAdd hg1 ho1
  refine o_move (v := (.slice xb lb.length cb)) rfl ?_
  refine o_call (args := [(.slice xb lb.length cb)]) rfl Try.call31 (Calls.mono (r_Set _ lb hS1.view hb) ?_)
  rintro _ w2 ⟨v2, rfl, hg2, ho2⟩
  refine ⟨_, rfl, ?_⟩
  obtain ⟨gs2, cp2, rfl⟩ := vec_pos ho2.1 (by omega)
  have hS2 := hS1.growAdd hg2 ho2
  refine o_assign (v := (.slice (some ⟨gs1, 0, none⟩) 10000 cp1)) rfl ?_
  refine o_assign (v := (.slice (some ⟨gs2, 0, none⟩) 10000 cp2)) rfl ?_
  refine wpList_nil ?_
  refine then_n ?_
  refine wp_seq ?_
  refine seq_reg ?_
  refine o_assign (v := (.int .i64 (0 : Int))) rfl ?_
  refine wpList_nil ?_
  refine then_n ?_
  refine wp_block ?_
  refine loop (fun m f z => ∃ (k : Nat) (g : Fr), m = 10000 - k ∧ f = (upd (upd (upd g 5 (.slice (some ⟨gs1, 0, none⟩) 10000 cp1)) 6 (.slice (some ⟨gs2, 0, none⟩) 10000 cp2)) 7 (.int .i64 ((k : Nat) : Int))) ∧ St ⟨w, σ, []⟩ z σ [vec (.slice (some ⟨gs2, 0, none⟩) 10000 cp2) 4 1 10000 (brow 10000 (Sp.cov lb)), vec (.slice (some ⟨gs1, 0, none⟩) 10000 cp1) 4 1 10000 (brow 10000 (Sp.mix k (Sp.cov la) (fun i => Sp.cov la i && !Sp.cov lb i)))] ∧ (k ≤ 10000)) (m0 := _) ⟨0, _, rfl, (upd_in rfl (upd_in rfl (upd_in rfl rfl))), hS2, Nat.zero_le _⟩ ?_
  rintro _ _ w3 ⟨k, g, rfl, rfl, hS3, hk⟩
  refine wp_seq ?_
  refine seq_reg ?_
  refine o_move (v := (.int .i64 ((k : Nat) : Int))) rfl ?_
  refine o_move (v := (.slice (some ⟨gs1, 0, none⟩) 10000 cp1)) rfl ?_
  refine o_len_slice rfl Try.underlying47 ?_
  refine o_lss (r := (decide (((k : Nat) : Int) < (10000 : Int)))) rfl rfl rfl ?_
  refine wpList_nil ?_
  refine then_n ?_
  refine if_d (((k : Nat) : Int) < (10000 : Int)) rfl (fun ht1 => ?_) (fun ht1 => ?_)
  · refine wp_skip ?_
    refine then_n ?_
    refine wp_seq ?_
    refine wp_block ?_
    refine one_reg ?_
    refine o_move (v := (.slice (some ⟨gs1, 0, none⟩) 10000 cp1)) rfl ?_
    refine o_move (v := (.int .i64 ((k : Nat) : Int))) rfl ?_
    refine o_move (v := (.slice (some ⟨gs1, 0, none⟩) 10000 cp1)) rfl ?_
    refine o_move (v := (.int .i64 ((k : Nat) : Int))) rfl ?_
    refine o_iaddr_slice (k := k) (a' := ⟨gs1, k, none⟩) rfl rfl (by omega) (by omega) Try.underlying47 Try.sizeOf4 (by simp [addr_lit]) ?_
    refine o_load (v := (.bool (Sp.mix k (Sp.cov la) (fun i => Sp.cov la i && !Sp.cov lb i) k))) rfl Try.isAgg4 ((vec_row (hS3.get (i := 1) rfl)).cell k (brow_at (by omega)) (addr0 _ _)) ?_
    rcases Bool.eq_false_or_eq_true (Sp.mix k (Sp.cov la) (fun i => Sp.cov la i && !Sp.cov lb i) k) with hb1 | hb1
    · have hmx1 := (Sp.mix_at _ _ _).symm.trans hb1
      refine o_move (v := (.bool true)) (congrArg Value.bool hb1) ?_
      refine o_on rfl rfl ?_
      refine o_move (v := (.slice (some ⟨gs2, 0, none⟩) 10000 cp2)) rfl ?_
      refine o_on rfl rfl ?_
      refine o_move (v := (.int .i64 ((k : Nat) : Int))) rfl ?_
      refine o_on rfl rfl ?_
      refine o_iaddr_slice (k := k) (a' := ⟨gs2, k, none⟩) rfl rfl (by omega) (by omega) Try.underlying47 Try.sizeOf4 (by simp [addr_lit]) ?_
      refine o_on rfl rfl ?_
      refine o_load (v := (.bool (Sp.cov lb k))) rfl Try.isAgg4 ((vec_row (hS3.get (i := 0) rfl)).cell k (brow_at (by omega)) (addr0 _ _)) ?_
      refine o_on rfl rfl ?_
      refine o_not (r := (!Sp.cov lb k)) rfl rfl ?_
      refine o_pick_t (v := (.bool (!Sp.cov lb k))) rfl rfl ?_
      refine o_iaddr_slice (k := k) (a' := ⟨gs1, k, none⟩) rfl rfl (by omega) (by omega) Try.underlying47 Try.sizeOf4 (by simp [addr_lit]) ?_
      refine o_store_vec (xs' := brow 10000 (Sp.mix (k + 1) (Sp.cov la) (fun i => Sp.cov la i && !Sp.cov lb i))) (ms' := [vec (.slice (some ⟨gs2, 0, none⟩) 10000 cp2) 4 1 10000 (brow 10000 (Sp.cov lb)), vec (.slice (some ⟨gs1, 0, none⟩) 10000 cp1) 4 1 10000 (brow 10000 (Sp.mix (k + 1) (Sp.cov la) (fun i => Sp.cov la i && !Sp.cov lb i)))]) (vs := [(.bool (!Sp.cov lb k))]) (i := 1) hS3 rfl rfl rfl Try.sizeOf4 rfl (ones rfl) rfl (by omega) ((brow_set (by omega)).trans (brow_congr (fun i _ => Sp.mix_step (by simp [hmx1]) i))) rfl ?_
      intro w4 hS4
      refine wpList_nil ?_
      refine blk_n ?_
      refine then_n ?_
      refine one_reg ?_
      refine o_move (v := (.int .i64 ((k : Nat) : Int))) rfl ?_
      refine o_add (r := ((k + 1 : Nat) : Int)) rfl rfl (nw (by omega) (by omega) (by omega)) ?_
      refine o_assign (v := (.int .i64 ((k + 1 : Nat) : Int))) rfl ?_
      refine wpList_nil ?_
      refine then_n ?_
      exact ⟨_, _, rfl, ⟨k + 1, _, rfl, (upd_in rfl (upd_in rfl (upd_in rfl rfl))), hS4, by omega⟩, by omega⟩
    · have hmx2 := (Sp.mix_at _ _ _).symm.trans hb1
      refine o_move (v := (.bool false)) (congrArg Value.bool hb1) ?_
      refine o_off rfl rfl ?_
      refine o_off rfl rfl ?_
      refine o_off rfl rfl ?_
      refine o_off rfl rfl ?_
      refine o_off rfl rfl ?_
      refine o_pick_f (v := (.bool false)) rfl rfl ?_
      refine o_iaddr_slice (k := k) (a' := ⟨gs1, k, none⟩) rfl rfl (by omega) (by omega) Try.underlying47 Try.sizeOf4 (by simp [addr_lit]) ?_
      refine o_store_vec (xs' := brow 10000 (Sp.mix (k + 1) (Sp.cov la) (fun i => Sp.cov la i && !Sp.cov lb i))) (ms' := [vec (.slice (some ⟨gs2, 0, none⟩) 10000 cp2) 4 1 10000 (brow 10000 (Sp.cov lb)), vec (.slice (some ⟨gs1, 0, none⟩) 10000 cp1) 4 1 10000 (brow 10000 (Sp.mix (k + 1) (Sp.cov la) (fun i => Sp.cov la i && !Sp.cov lb i)))]) (vs := [(.bool false)]) (i := 1) hS3 rfl rfl rfl Try.sizeOf4 rfl (ones rfl) rfl (by omega) ((brow_set (by omega)).trans (brow_congr (fun i _ => Sp.mix_step (by simp [hmx2]) i))) rfl ?_
      intro w5 hS5
      refine wpList_nil ?_
      refine blk_n ?_
      refine then_n ?_
      refine one_reg ?_
      refine o_move (v := (.int .i64 ((k : Nat) : Int))) rfl ?_
      refine o_add (r := ((k + 1 : Nat) : Int)) rfl rfl (nw (by omega) (by omega) (by omega)) ?_
      refine o_assign (v := (.int .i64 ((k + 1 : Nat) : Int))) rfl ?_
      refine wpList_nil ?_
      refine then_n ?_
      exact ⟨_, _, rfl, ⟨k + 1, _, rfl, (upd_in rfl (upd_in rfl (upd_in rfl rfl))), hS5, by omega⟩, by omega⟩
  · refine wp_exit ?_
    refine then_e ?_
    refine then_e ?_
    refine blk_hit ?_
    refine then_n ?_
    refine seq_reg ?_
    refine o_move (v := (.slice (some ⟨gs1, 0, none⟩) 10000 cp1)) rfl ?_
    obtain ⟨σ1, hS6, hsub1, hfr1⟩ := hS3.freeze (i := 1) rfl rfl rfl
    refine o_call (args := [(.slice (some ⟨gs1, 0, none⟩) 10000 cp1)]) rfl Try.call30 (Calls.mono (r_Spans _ (Sp.mix k (Sp.cov la) (fun i => Sp.cov la i && !Sp.cov lb i)) hS6.view (RBr.ofVec (hS3.get (i := 1) rfl) (by omega) hfr1)) ?_)
    rintro _ w6 ⟨v3, σ2, rfl, hg3, hrd1⟩
    refine ⟨_, rfl, ?_⟩
    have hS7 := hS6.grow hg3
    obtain ⟨xa1, ca1, he1⟩ := hrd1.shape
    subst he1
    refine o_assign (v := (.slice xa1 ((Sp.runs (Sp.mix k (Sp.cov la) (fun i => Sp.cov la i && !Sp.cov lb i)) 10000)).length ca1)) rfl ?_
    refine wpList_nil ?_
    refine then_n ?_
    refine wp_ret ?_
    refine ret1 rfl (show ev _ _ _ = (.slice xa1 ((Sp.runs (Sp.mix k (Sp.cov la) (fun i => Sp.cov la i && !Sp.cov lb i)) 10000)).length ca1) from rfl) ?_
    have hE : Sp.runs (fun i => Sp.cov la i && !Sp.cov lb i) 10000 = (Sp.runs (Sp.mix k (Sp.cov la) (fun i => Sp.cov la i && !Sp.cov lb i)) 10000) := Sp.runs_congr (fun i hi => (Sp.mix_all (p := Sp.cov la) (q := (fun i => Sp.cov la i && !Sp.cov lb i)) (show i < k by omega)).symm)
    exact ⟨(.slice xa1 ((Sp.runs (Sp.mix k (Sp.cov la) (fun i => Sp.cov la i && !Sp.cov lb i)) 10000)).length ca1), σ2, rfl, hS7.done, by rw [hE]; exact hrd1⟩

theorem r_Common {σ : Hv} {w : World} (a : Value) (b : Value) (la : List (Int × Int)) (lb : List (Int × Int)) (hV : View σ w) (ha : RSl 2 (REnc encSp) σ a la) (hb : RSl 2 (REnc encSp) σ b lb) :
    Calls Try.prog 17 #[a, b] w fun e w1 => ∃ (v : Value) (σ1 : Hv), e = .returned v ∧ Grow [] σ w σ1 w1 ∧ RSl 2 (REnc encSp) σ1 v (Sp.runs (fun i => Sp.cov la i && Sp.cov lb i) 10000) := by
  refine enter Try.func17 rfl rfl rfl ?_
  have hS := St.start hV
  obtain ⟨xa, ca, ea⟩ := ha.shape
  subst ea
  obtain ⟨xb, cb, eb⟩ := hb.shape
  subst eb
  refine seq_reg ?_
  refine o_assign (v := (.slice none 0 0)) rfl ?_
  refine wpList_nil ?_
  refine then_n ?_
  refine seq_reg ?_
  refine o_move (v := (.slice xa la.length ca)) rfl ?_
  refine o_call (args := [(.slice xa la.length ca)]) rfl Try.call31 (Calls.mono (r_Set _ la hS.view ha) ?_)
  rintro _ w1 ⟨v1, rfl, hg1, ho1⟩
  refine ⟨_, rfl, ?_⟩
  obtain ⟨gs1, cp1, rfl⟩ := vec_pos ho1.1 (by omega)
  have hS1 := hS.growAdd hg1 ho1
  refine o_move (v := (.slice xb lb.length cb)) rfl ?_
  refine o_call (args := [(.slice xb lb.length cb)]) rfl Try.call31 (Calls.mono (r_Set _ lb hS1.view hb) ?_)
  rintro _ w2 ⟨v2, rfl, hg2, ho2⟩
  refine ⟨_, rfl, ?_⟩
  obtain ⟨gs2, cp2, rfl⟩ := vec_pos ho2.1 (by omega)
  have hS2 := hS1.growAdd hg2 ho2
  refine o_assign (v := (.slice (some ⟨gs1, 0, none⟩) 10000 cp1)) rfl ?_
  refine o_assign (v := (.slice (some ⟨gs2, 0, none⟩) 10000 cp2)) rfl ?_
  refine wpList_nil ?_
  refine then_n ?_
  refine wp_seq ?_
  refine seq_reg ?_
  refine o_assign (v := (.int .i64 (0 : Int))) rfl ?_
  refine wpList_nil ?_
  refine then_n ?_
  refine wp_block ?_
  refine loop (fun m f z => ∃ (k : Nat) (g : Fr), m = 10000 - k ∧ f = (upd (upd (upd g 5 (.slice (some ⟨gs1, 0, none⟩) 10000 cp1)) 6 (.slice (some ⟨gs2, 0, none⟩) 10000 cp2)) 7 (.int .i64 ((k : Nat) : Int))) ∧ St ⟨w, σ, []⟩ z σ [vec (.slice (some ⟨gs2, 0, none⟩) 10000 cp2) 4 1 10000 (brow 10000 (Sp.cov lb)), vec (.slice (some ⟨gs1, 0, none⟩) 10000 cp1) 4 1 10000 (brow 10000 (Sp.mix k (Sp.cov la) (fun i => Sp.cov la i && Sp.cov lb i)))] ∧ (k ≤ 10000)) (m0 := _) ⟨0, _, rfl, (upd_in rfl (upd_in rfl (upd_in rfl rfl))), hS2, Nat.zero_le _⟩ ?_
  rintro _ _ w3 ⟨k, g, rfl, rfl, hS3, hk⟩
  refine wp_seq ?_
  refine seq_reg ?_
  refine o_move (v := (.int .i64 ((k : Nat) : Int))) rfl ?_
  refine o_move (v := (.slice (some ⟨gs1, 0, none⟩) 10000 cp1)) rfl ?_
  refine o_len_slice rfl Try.underlying47 ?_
  refine o_lss (r := (decide (((k : Nat) : Int) < (10000 : Int)))) rfl rfl rfl ?_
  refine wpList_nil ?_
  refine then_n ?_
  refine if_d (((k : Nat) : Int) < (10000 : Int)) rfl (fun ht1 => ?_) (fun ht1 => ?_)
  · refine wp_skip ?_
    refine then_n ?_
    refine wp_seq ?_
    refine wp_block ?_
    refine one_reg ?_
    refine o_move (v := (.slice (some ⟨gs1, 0, none⟩) 10000 cp1)) rfl ?_
    refine o_move (v := (.int .i64 ((k : Nat) : Int))) rfl ?_
    refine o_move (v := (.slice (some ⟨gs1, 0, none⟩) 10000 cp1)) rfl ?_
    refine o_move (v := (.int .i64 ((k : Nat) : Int))) rfl ?_
    refine o_iaddr_slice (k := k) (a' := ⟨gs1, k, none⟩) rfl rfl (by omega) (by omega) Try.underlying47 Try.sizeOf4 (by simp [addr_lit]) ?_
    refine o_load (v := (.bool (Sp.mix k (Sp.cov la) (fun i => Sp.cov la i && Sp.cov lb i) k))) rfl Try.isAgg4 ((vec_row (hS3.get (i := 1) rfl)).cell k (brow_at (by omega)) (addr0 _ _)) ?_
    rcases Bool.eq_false_or_eq_true (Sp.mix k (Sp.cov la) (fun i => Sp.cov la i && Sp.cov lb i) k) with hb1 | hb1
    · have hmx1 := (Sp.mix_at _ _ _).symm.trans hb1
      refine o_move (v := (.bool true)) (congrArg Value.bool hb1) ?_
      refine o_on rfl rfl ?_
      refine o_move (v := (.slice (some ⟨gs2, 0, none⟩) 10000 cp2)) rfl ?_
      refine o_on rfl rfl ?_
      refine o_move (v := (.int .i64 ((k : Nat) : Int))) rfl ?_
      refine o_on rfl rfl ?_
      refine o_iaddr_slice (k := k) (a' := ⟨gs2, k, none⟩) rfl rfl (by omega) (by omega) Try.underlying47 Try.sizeOf4 (by simp [addr_lit]) ?_
      refine o_on rfl rfl ?_
      refine o_load (v := (.bool (Sp.cov lb k))) rfl Try.isAgg4 ((vec_row (hS3.get (i := 0) rfl)).cell k (brow_at (by omega)) (addr0 _ _)) ?_
      refine o_pick_t (v := (.bool (Sp.cov lb k))) rfl rfl ?_
      refine o_iaddr_slice (k := k) (a' := ⟨gs1, k, none⟩) rfl rfl (by omega) (by omega) Try.underlying47 Try.sizeOf4 (by simp [addr_lit]) ?_
      refine o_store_vec (xs' := brow 10000 (Sp.mix (k + 1) (Sp.cov la) (fun i => Sp.cov la i && Sp.cov lb i))) (ms' := [vec (.slice (some ⟨gs2, 0, none⟩) 10000 cp2) 4 1 10000 (brow 10000 (Sp.cov lb)), vec (.slice (some ⟨gs1, 0, none⟩) 10000 cp1) 4 1 10000 (brow 10000 (Sp.mix (k + 1) (Sp.cov la) (fun i => Sp.cov la i && Sp.cov lb i)))]) (vs := [(.bool (Sp.cov lb k))]) (i := 1) hS3 rfl rfl rfl Try.sizeOf4 rfl (ones rfl) rfl (by omega) ((brow_set (by omega)).trans (brow_congr (fun i _ => Sp.mix_step (by simp [hmx1]) i))) rfl ?_
      intro w4 hS4
      refine wpList_nil ?_
      refine blk_n ?_
      refine then_n ?_
      refine one_reg ?_
      refine o_move (v := (.int .i64 ((k : Nat) : Int))) rfl ?_
      refine o_add (r := ((k + 1 : Nat) : Int)) rfl rfl (nw (by omega) (by omega) (by omega)) ?_
      refine o_assign (v := (.int .i64 ((k + 1 : Nat) : Int))) rfl ?_
      refine wpList_nil ?_
      refine then_n ?_
      exact ⟨_, _, rfl, ⟨k + 1, _, rfl, (upd_in rfl (upd_in rfl (upd_in rfl rfl))), hS4, by omega⟩, by omega⟩
    · have hmx2 := (Sp.mix_at _ _ _).symm.trans hb1
      refine o_move (v := (.bool false)) (congrArg Value.bool hb1) ?_
      refine o_off rfl rfl ?_
      refine o_off rfl rfl ?_
      refine o_off rfl rfl ?_
      refine o_off rfl rfl ?_
      refine o_pick_f (v := (.bool false)) rfl rfl ?_
      refine o_iaddr_slice (k := k) (a' := ⟨gs1, k, none⟩) rfl rfl (by omega) (by omega) Try.underlying47 Try.sizeOf4 (by simp [addr_lit]) ?_
      refine o_store_vec (xs' := brow 10000 (Sp.mix (k + 1) (Sp.cov la) (fun i => Sp.cov la i && Sp.cov lb i))) (ms' := [vec (.slice (some ⟨gs2, 0, none⟩) 10000 cp2) 4 1 10000 (brow 10000 (Sp.cov lb)), vec (.slice (some ⟨gs1, 0, none⟩) 10000 cp1) 4 1 10000 (brow 10000 (Sp.mix (k + 1) (Sp.cov la) (fun i => Sp.cov la i && Sp.cov lb i)))]) (vs := [(.bool false)]) (i := 1) hS3 rfl rfl rfl Try.sizeOf4 rfl (ones rfl) rfl (by omega) ((brow_set (by omega)).trans (brow_congr (fun i _ => Sp.mix_step (by simp [hmx2]) i))) rfl ?_
      intro w5 hS5
      refine wpList_nil ?_
      refine blk_n ?_
      refine then_n ?_
      refine one_reg ?_
      refine o_move (v := (.int .i64 ((k : Nat) : Int))) rfl ?_
      refine o_add (r := ((k + 1 : Nat) : Int)) rfl rfl (nw (by omega) (by omega) (by omega)) ?_
      refine o_assign (v := (.int .i64 ((k + 1 : Nat) : Int))) rfl ?_
      refine wpList_nil ?_
      refine then_n ?_
      exact ⟨_, _, rfl, ⟨k + 1, _, rfl, (upd_in rfl (upd_in rfl (upd_in rfl rfl))), hS5, by omega⟩, by omega⟩
  · refine wp_exit ?_
    refine then_e ?_
    refine then_e ?_
    refine blk_hit ?_
    refine then_n ?_
    refine seq_reg ?_
    refine o_move (v := (.slice (some ⟨gs1, 0, none⟩) 10000 cp1)) rfl ?_
    obtain ⟨σ1, hS6, hsub1, hfr1⟩ := hS3.freeze (i := 1) rfl rfl rfl
    refine o_call (args := [(.slice (some ⟨gs1, 0, none⟩) 10000 cp1)]) rfl Try.call30 (Calls.mono (r_Spans _ (Sp.mix k (Sp.cov la) (fun i => Sp.cov la i && Sp.cov lb i)) hS6.view (RBr.ofVec (hS3.get (i := 1) rfl) (by omega) hfr1)) ?_)
    rintro _ w6 ⟨v3, σ2, rfl, hg3, hrd1⟩
    refine ⟨_, rfl, ?_⟩
    have hS7 := hS6.grow hg3
    obtain ⟨xa1, ca1, he1⟩ := hrd1.shape
    subst he1
    refine o_assign (v := (.slice xa1 ((Sp.runs (Sp.mix k (Sp.cov la) (fun i => Sp.cov la i && Sp.cov lb i)) 10000)).length ca1)) rfl ?_
    refine wpList_nil ?_
    refine then_n ?_
    refine wp_ret ?_
    refine ret1 rfl (show ev _ _ _ = (.slice xa1 ((Sp.runs (Sp.mix k (Sp.cov la) (fun i => Sp.cov la i && Sp.cov lb i)) 10000)).length ca1) from rfl) ?_
    have hE : Sp.runs (fun i => Sp.cov la i && Sp.cov lb i) 10000 = (Sp.runs (Sp.mix k (Sp.cov la) (fun i => Sp.cov la i && Sp.cov lb i)) 10000) := Sp.runs_congr (fun i hi => (Sp.mix_all (p := Sp.cov la) (q := (fun i => Sp.cov la i && Sp.cov lb i)) (show i < k by omega)).symm)
    exact ⟨(.slice xa1 ((Sp.runs (Sp.mix k (Sp.cov la) (fun i => Sp.cov la i && Sp.cov lb i)) 10000)).length ca1), σ2, rfl, hS7.done, by rw [hE]; exact hrd1⟩

theorem r_First {σ : Hv} {w : World} (a : Value) (la : List (Int × Int)) (n : Int) (hV : View σ w) (ha : RSl 2 (REnc encSp) σ a la) (hn : -9223372036854775808 ≤ n) (hn2 : n ≤ 9223372036854775807) :
    Calls Try.prog 20 #[a, (.int .i64 n)] w fun e w1 => ∃ (v : Value) (σ1 : Hv), e = .returned v ∧ Grow [] σ w σ1 w1 ∧ RSl 2 (REnc encSp) σ1 v (Sp.runs (Sp.firstP (Sp.cov la) n) 10000) := by
  refine enter Try.func20 rfl rfl rfl ?_
  have hS := St.start hV
  obtain ⟨xa, ca, ea⟩ := ha.shape
  subst ea
  refine seq_reg ?_
  refine o_assign (v := (.slice none 0 0)) rfl ?_
  refine wpList_nil ?_
  refine then_n ?_
  refine seq_reg ?_
  refine o_move (v := (.slice xa la.length ca)) rfl ?_
  refine o_call (args := [(.slice xa la.length ca)]) rfl Try.call31 (Calls.mono (r_Set _ la hS.view ha) ?_)
  rintro _ w1 ⟨v1, rfl, hg1, ho1⟩
  refine ⟨_, rfl, ?_⟩
  obtain ⟨gs1, cp1, rfl⟩ := vec_pos ho1.1 (by omega)
  have hS1 := hS.growAdd hg1 ho1
  refine o_assign (v := (.slice (some ⟨gs1, 0, none⟩) 10000 cp1)) rfl ?_
  refine wpList_nil ?_
  refine then_n ?_
  refine wp_seq ?_
  refine seq_reg ?_
  refine o_assign (v := (.int .i64 (0 : Int))) rfl ?_
  refine wpList_nil ?_
  refine then_n ?_
  refine wp_block ?_
  refine loop (fun m f z => ∃ (k : Nat) (g : Fr), m = 10000 - k ∧ f = (upd (upd (upd g 1 (.int .i64 (Sp.leftN (Sp.cov la) n k))) 5 (.slice (some ⟨gs1, 0, none⟩) 10000 cp1)) 6 (.int .i64 ((k : Nat) : Int))) ∧ St ⟨w, σ, []⟩ z σ [vec (.slice (some ⟨gs1, 0, none⟩) 10000 cp1) 4 1 10000 (brow 10000 (Sp.mix k (Sp.cov la) (Sp.firstP (Sp.cov la) n)))] ∧ (k ≤ 10000)) (m0 := _) ⟨0, _, rfl, (upd_in rfl (upd_in rfl (upd_in rfl rfl))), hS1, Nat.zero_le _⟩ ?_
  rintro _ _ w2 ⟨k, g, rfl, rfl, hS2, hk⟩
  have hl := Sp.leftN_le (Sp.cov la) n k
  refine wp_seq ?_
  refine seq_reg ?_
  refine o_move (v := (.int .i64 ((k : Nat) : Int))) rfl ?_
  refine o_move (v := (.slice (some ⟨gs1, 0, none⟩) 10000 cp1)) rfl ?_
  refine o_len_slice rfl Try.underlying47 ?_
  refine o_lss (r := (decide (((k : Nat) : Int) < (10000 : Int)))) rfl rfl rfl ?_
  refine wpList_nil ?_
  refine then_n ?_
  refine if_d (((k : Nat) : Int) < (10000 : Int)) rfl (fun ht1 => ?_) (fun ht1 => ?_)
  · refine wp_skip ?_
    refine then_n ?_
    refine wp_seq ?_
    refine wp_block ?_
    refine seq_reg ?_
    refine o_move (v := (.slice (some ⟨gs1, 0, none⟩) 10000 cp1)) rfl ?_
    refine o_move (v := (.int .i64 ((k : Nat) : Int))) rfl ?_
    refine o_iaddr_slice (k := k) (a' := ⟨gs1, k, none⟩) rfl rfl (by omega) (by omega) Try.underlying47 Try.sizeOf4 (by simp [addr_lit]) ?_
    refine o_load (v := (.bool (Sp.mix k (Sp.cov la) (Sp.firstP (Sp.cov la) n) k))) rfl Try.isAgg4 ((vec_row (hS2.get (i := 0) rfl)).cell k (brow_at (by omega)) (addr0 _ _)) ?_
    rcases Bool.eq_false_or_eq_true (Sp.mix k (Sp.cov la) (Sp.firstP (Sp.cov la) n) k) with hb1 | hb1
    · have hmx1 := (Sp.mix_at _ _ _).symm.trans hb1
      refine o_move (v := (.bool true)) (congrArg Value.bool hb1) ?_
      refine o_on rfl rfl ?_
      refine o_move (v := (.int .i64 (Sp.leftN (Sp.cov la) n k))) rfl ?_
      refine o_on rfl rfl ?_
      refine o_leq (r := (decide ((Sp.leftN (Sp.cov la) n k) ≤ (0 : Int)))) rfl rfl rfl ?_
      refine o_pick_t (v := (.bool (decide ((Sp.leftN (Sp.cov la) n k) ≤ (0 : Int))))) rfl rfl ?_
      refine wpList_nil ?_
      refine then_n ?_
      refine if_d ((Sp.leftN (Sp.cov la) n k) ≤ (0 : Int)) rfl (fun ht2 => ?_) (fun ht2 => ?_)
      · refine one_reg ?_
        refine o_move (v := (.slice (some ⟨gs1, 0, none⟩) 10000 cp1)) rfl ?_
        refine o_move (v := (.int .i64 ((k : Nat) : Int))) rfl ?_
        refine o_iaddr_slice (k := k) (a' := ⟨gs1, k, none⟩) rfl rfl (by omega) (by omega) Try.underlying47 Try.sizeOf4 (by simp [addr_lit]) ?_
        refine o_store_vec (xs' := brow 10000 (Sp.mix (k + 1) (Sp.cov la) (Sp.firstP (Sp.cov la) n))) (ms' := [vec (.slice (some ⟨gs1, 0, none⟩) 10000 cp1) 4 1 10000 (brow 10000 (Sp.mix (k + 1) (Sp.cov la) (Sp.firstP (Sp.cov la) n)))]) (vs := [(.bool false)]) (i := 0) hS2 rfl rfl rfl Try.sizeOf4 rfl (ones rfl) rfl (by omega) ((brow_set (by omega)).trans (brow_congr (fun i _ => Sp.mix_step (by simp [Sp.firstP, hmx1]; omega) i))) rfl ?_
        intro w3 hS3
        refine wpList_nil ?_
        refine blk_n ?_
        refine then_n ?_
        refine one_reg ?_
        refine o_move (v := (.int .i64 ((k : Nat) : Int))) rfl ?_
        refine o_add (r := ((k + 1 : Nat) : Int)) rfl rfl (nw (by omega) (by omega) (by omega)) ?_
        refine o_assign (v := (.int .i64 ((k + 1 : Nat) : Int))) rfl ?_
        refine wpList_nil ?_
        refine then_n ?_
        have hq : Sp.leftN (Sp.cov la) n (k + 1) = (Sp.leftN (Sp.cov la) n k) := by rw [Sp.leftN]; first | (rw [if_pos ⟨hmx1, by omega⟩]; done) | (rw [if_neg (by rintro ⟨h1, h2⟩; first | omega | simp_all)]; done)
        exact ⟨_, _, rfl, ⟨k + 1, _, rfl, (upd_in rfl (upd_in rfl (upd_in (congrArg (fun z : Int => Value.int .i64 z) hq.symm) rfl))), hS3, by omega⟩, by omega⟩
      · refine seq_reg ?_
        refine o_move (v := (.slice (some ⟨gs1, 0, none⟩) 10000 cp1)) rfl ?_
        refine o_move (v := (.int .i64 ((k : Nat) : Int))) rfl ?_
        refine o_iaddr_slice (k := k) (a' := ⟨gs1, k, none⟩) rfl rfl (by omega) (by omega) Try.underlying47 Try.sizeOf4 (by simp [addr_lit]) ?_
        refine o_load (v := (.bool (Sp.mix k (Sp.cov la) (Sp.firstP (Sp.cov la) n) k))) rfl Try.isAgg4 ((vec_row (hS2.get (i := 0) rfl)).cell k (brow_at (by omega)) (addr0 _ _)) ?_
        refine wpList_nil ?_
        refine then_n ?_
        refine if_b rfl (fun ht3 => ?_) (fun ht3 => ?_)
        · have hmx2 := (Sp.mix_at _ _ _).symm.trans ht3
          refine one_reg ?_
          refine o_move (v := (.int .i64 (Sp.leftN (Sp.cov la) n k))) rfl ?_
          refine o_sub (r := ((Sp.leftN (Sp.cov la) n k) - (1 : Int))) rfl rfl (nw (by omega) (by omega) (by omega)) ?_
          refine o_assign (v := (.int .i64 ((Sp.leftN (Sp.cov la) n k) - (1 : Int)))) rfl ?_
          refine wpList_nil ?_
          refine blk_n ?_
          refine then_n ?_
          refine one_reg ?_
          refine o_move (v := (.int .i64 ((k : Nat) : Int))) rfl ?_
          refine o_add (r := ((k + 1 : Nat) : Int)) rfl rfl (nw (by omega) (by omega) (by omega)) ?_
          refine o_assign (v := (.int .i64 ((k + 1 : Nat) : Int))) rfl ?_
          refine wpList_nil ?_
          refine then_n ?_
          have hq : Sp.leftN (Sp.cov la) n (k + 1) = ((Sp.leftN (Sp.cov la) n k) - (1 : Int)) := by rw [Sp.leftN]; first | (rw [if_pos ⟨hmx2, by omega⟩]; done) | (rw [if_neg (by rintro ⟨h1, h2⟩; first | omega | simp_all)]; done)
          exact ⟨_, _, rfl, ⟨k + 1, _, rfl, (upd_in rfl (upd_in rfl (upd_in (congrArg (fun z : Int => Value.int .i64 z) hq.symm) rfl))), (by rw [← brow_congr (N := 10000) (fun i _ => Sp.mix_same (p := (Sp.cov la)) (q := (Sp.firstP (Sp.cov la) n)) (k := k) (by first | (simp [Sp.firstP, hmx2]; done) | (simp [Sp.firstP, hmx2]; omega)) i)]; exact hS2), by omega⟩, by omega⟩
        · have hmx3 := (Sp.mix_at _ _ _).symm.trans ht3
          exact absurd (hmx1.symm.trans hmx3) (by decide)
    · have hmx4 := (Sp.mix_at _ _ _).symm.trans hb1
      refine o_move (v := (.bool false)) (congrArg Value.bool hb1) ?_
      refine o_off rfl rfl ?_
      refine o_off rfl rfl ?_
      refine o_pick_f (v := (.bool false)) rfl rfl ?_
      refine wpList_nil ?_
      refine then_n ?_
      refine if_f rfl ?_
      refine seq_reg ?_
      refine o_move (v := (.slice (some ⟨gs1, 0, none⟩) 10000 cp1)) rfl ?_
      refine o_move (v := (.int .i64 ((k : Nat) : Int))) rfl ?_
      refine o_iaddr_slice (k := k) (a' := ⟨gs1, k, none⟩) rfl rfl (by omega) (by omega) Try.underlying47 Try.sizeOf4 (by simp [addr_lit]) ?_
      refine o_load (v := (.bool (Sp.mix k (Sp.cov la) (Sp.firstP (Sp.cov la) n) k))) rfl Try.isAgg4 ((vec_row (hS2.get (i := 0) rfl)).cell k (brow_at (by omega)) (addr0 _ _)) ?_
      refine wpList_nil ?_
      refine then_n ?_
      refine if_b rfl (fun ht4 => ?_) (fun ht4 => ?_)
      · have hmx5 := (Sp.mix_at _ _ _).symm.trans ht4
        exact absurd (hmx4.symm.trans hmx5) (by decide)
      · have hmx6 := (Sp.mix_at _ _ _).symm.trans ht4
        refine wp_skip ?_
        refine blk_n ?_
        refine then_n ?_
        refine one_reg ?_
        refine o_move (v := (.int .i64 ((k : Nat) : Int))) rfl ?_
        refine o_add (r := ((k + 1 : Nat) : Int)) rfl rfl (nw (by omega) (by omega) (by omega)) ?_
        refine o_assign (v := (.int .i64 ((k + 1 : Nat) : Int))) rfl ?_
        refine wpList_nil ?_
        refine then_n ?_
        have hq : Sp.leftN (Sp.cov la) n (k + 1) = (Sp.leftN (Sp.cov la) n k) := by rw [Sp.leftN]; first | (rw [if_pos ⟨hmx6, by omega⟩]; done) | (rw [if_neg (by rintro ⟨h1, h2⟩; first | omega | simp_all)]; done)
        exact ⟨_, _, rfl, ⟨k + 1, _, rfl, (upd_in rfl (upd_in rfl (upd_in (congrArg (fun z : Int => Value.int .i64 z) hq.symm) rfl))), (by rw [← brow_congr (N := 10000) (fun i _ => Sp.mix_same (p := (Sp.cov la)) (q := (Sp.firstP (Sp.cov la) n)) (k := k) (by first | (simp [Sp.firstP, hmx6]; done) | (simp [Sp.firstP, hmx6]; omega)) i)]; exact hS2), by omega⟩, by omega⟩
  · refine wp_exit ?_
    refine then_e ?_
    refine then_e ?_
    refine blk_hit ?_
    refine then_n ?_
    refine seq_reg ?_
    refine o_move (v := (.slice (some ⟨gs1, 0, none⟩) 10000 cp1)) rfl ?_
    obtain ⟨σ1, hS4, hsub1, hfr1⟩ := hS2.freeze (i := 0) rfl rfl rfl
    refine o_call (args := [(.slice (some ⟨gs1, 0, none⟩) 10000 cp1)]) rfl Try.call30 (Calls.mono (r_Spans _ (Sp.mix k (Sp.cov la) (Sp.firstP (Sp.cov la) n)) hS4.view (RBr.ofVec (hS2.get (i := 0) rfl) (by omega) hfr1)) ?_)
    rintro _ w4 ⟨v2, σ2, rfl, hg2, hrd1⟩
    refine ⟨_, rfl, ?_⟩
    have hS5 := hS4.grow hg2
    obtain ⟨xa1, ca1, he1⟩ := hrd1.shape
    subst he1
    refine o_assign (v := (.slice xa1 ((Sp.runs (Sp.mix k (Sp.cov la) (Sp.firstP (Sp.cov la) n)) 10000)).length ca1)) rfl ?_
    refine wpList_nil ?_
    refine then_n ?_
    refine wp_ret ?_
    refine ret1 rfl (show ev _ _ _ = (.slice xa1 ((Sp.runs (Sp.mix k (Sp.cov la) (Sp.firstP (Sp.cov la) n)) 10000)).length ca1) from rfl) ?_
    have hE : Sp.runs (Sp.firstP (Sp.cov la) n) 10000 = (Sp.runs (Sp.mix k (Sp.cov la) (Sp.firstP (Sp.cov la) n)) 10000) := Sp.runs_congr (fun i hi => (Sp.mix_all (p := Sp.cov la) (q := (Sp.firstP (Sp.cov la) n)) (show i < k by omega)).symm)
    exact ⟨(.slice xa1 ((Sp.runs (Sp.mix k (Sp.cov la) (Sp.firstP (Sp.cov la) n)) 10000)).length ca1), σ2, rfl, hS5.done, by rw [hE]; exact hrd1⟩

theorem r_Size {σ : Hv} {w : World} (a : Value) (la : List (Int × Int)) (hV : View σ w) (ha : RSl 2 (REnc encSp) σ a la) :
    Calls Try.prog 18 #[a] w fun e w1 => e = .returned (.int .i64 ((Sp.cnt (Sp.cov la) 10000 : Nat) : Int)) ∧ Grow [] σ w σ w1 := by
  refine enter Try.func18 rfl rfl rfl ?_
  have hS := St.start hV
  obtain ⟨xa, ca, ea⟩ := ha.shape
  subst ea
  refine seq_reg ?_
  refine o_assign (v := (.int .i64 (0 : Int))) rfl ?_
  refine wpList_nil ?_
  refine then_n ?_
  refine seq_reg ?_
  refine o_assign (v := (.int .i64 (0 : Int))) rfl ?_
  refine wpList_nil ?_
  refine then_n ?_
  refine seq_reg ?_
  refine o_move (v := (.slice xa la.length ca)) rfl ?_
  refine o_call (args := [(.slice xa la.length ca)]) rfl Try.call31 (Calls.mono (r_Set _ la hS.view ha) ?_)
  rintro _ w1 ⟨v1, rfl, hg1, ho1⟩
  refine ⟨_, rfl, ?_⟩
  obtain ⟨gs1, cp1, rfl⟩ := vec_pos ho1.1 (by omega)
  have hS1 := hS.growAdd hg1 ho1
  refine o_assign (v := (.slice (some ⟨gs1, 0, none⟩) 10000 cp1)) rfl ?_
  refine wpList_nil ?_
  refine then_n ?_
  refine wp_seq ?_
  refine seq_reg ?_
  refine o_assign (v := (.int .i64 (0 : Int))) rfl ?_
  refine wpList_nil ?_
  refine then_n ?_
  refine wp_block ?_
  refine loop (fun m f z => ∃ (k : Nat) (g : Fr), m = 10000 - k ∧ f = (upd (upd (upd g 3 (.int .i64 ((Sp.cnt (Sp.cov la) k : Nat) : Int))) 4 (.slice (some ⟨gs1, 0, none⟩) 10000 cp1)) 5 (.int .i64 ((k : Nat) : Int))) ∧ St ⟨w, σ, []⟩ z σ [vec (.slice (some ⟨gs1, 0, none⟩) 10000 cp1) 4 1 10000 (brow 10000 (Sp.cov la))] ∧ (k ≤ 10000)) (m0 := _) ⟨0, _, rfl, (upd_in rfl (upd_in rfl (upd_in rfl rfl))), hS1, Nat.zero_le _⟩ ?_
  rintro _ _ w2 ⟨k, g, rfl, rfl, hS2, hk⟩
  have hcl := Sp.cnt_le (Sp.cov la) k
  refine wp_seq ?_
  refine seq_reg ?_
  refine o_move (v := (.int .i64 ((k : Nat) : Int))) rfl ?_
  refine o_move (v := (.slice (some ⟨gs1, 0, none⟩) 10000 cp1)) rfl ?_
  refine o_len_slice rfl Try.underlying47 ?_
  refine o_lss (r := (decide (((k : Nat) : Int) < (10000 : Int)))) rfl rfl rfl ?_
  refine wpList_nil ?_
  refine then_n ?_
  refine if_d (((k : Nat) : Int) < (10000 : Int)) rfl (fun ht1 => ?_) (fun ht1 => ?_)
  · refine wp_skip ?_
    refine then_n ?_
    refine wp_seq ?_
    refine wp_block ?_
    refine seq_reg ?_
    refine o_move (v := (.slice (some ⟨gs1, 0, none⟩) 10000 cp1)) rfl ?_
    refine o_move (v := (.int .i64 ((k : Nat) : Int))) rfl ?_
    refine o_iaddr_slice (k := k) (a' := ⟨gs1, k, none⟩) rfl rfl (by omega) (by omega) Try.underlying47 Try.sizeOf4 (by simp [addr_lit]) ?_
    refine o_load (v := (.bool (Sp.cov la k))) rfl Try.isAgg4 ((vec_row (hS2.get (i := 0) rfl)).cell k (brow_at (by omega)) (addr0 _ _)) ?_
    refine wpList_nil ?_
    refine then_n ?_
    refine if_b rfl (fun ht2 => ?_) (fun ht2 => ?_)
    · refine one_reg ?_
      refine o_move (v := (.int .i64 ((Sp.cnt (Sp.cov la) k : Nat) : Int))) rfl ?_
      refine o_add (r := ((Sp.cnt (Sp.cov la) k + 1 : Nat) : Int)) rfl rfl (nw (by omega) (by omega) (by omega)) ?_
      refine o_assign (v := (.int .i64 ((Sp.cnt (Sp.cov la) k + 1 : Nat) : Int))) rfl ?_
      refine wpList_nil ?_
      refine blk_n ?_
      refine then_n ?_
      refine one_reg ?_
      refine o_move (v := (.int .i64 ((k : Nat) : Int))) rfl ?_
      refine o_add (r := ((k + 1 : Nat) : Int)) rfl rfl (nw (by omega) (by omega) (by omega)) ?_
      refine o_assign (v := (.int .i64 ((k + 1 : Nat) : Int))) rfl ?_
      refine wpList_nil ?_
      refine then_n ?_
      have hc : Sp.cnt (Sp.cov la) (k + 1) = Sp.cnt (Sp.cov la) k + 1 := by rw [Sp.cnt, ht2]; rfl
      exact ⟨_, _, rfl, ⟨k + 1, _, rfl, (upd_in rfl (upd_in rfl (upd_in (congrArg (fun z : Nat => Value.int .i64 (z : Int)) hc.symm) rfl))), hS2, by omega⟩, by omega⟩
    · refine wp_skip ?_
      refine blk_n ?_
      refine then_n ?_
      refine one_reg ?_
      refine o_move (v := (.int .i64 ((k : Nat) : Int))) rfl ?_
      refine o_add (r := ((k + 1 : Nat) : Int)) rfl rfl (nw (by omega) (by omega) (by omega)) ?_
      refine o_assign (v := (.int .i64 ((k + 1 : Nat) : Int))) rfl ?_
      refine wpList_nil ?_
      refine then_n ?_
      have hc : Sp.cnt (Sp.cov la) (k + 1) = Sp.cnt (Sp.cov la) k + 0 := by rw [Sp.cnt, ht2]; rfl
      exact ⟨_, _, rfl, ⟨k + 1, _, rfl, (upd_in rfl (upd_in rfl (upd_in (congrArg (fun z : Nat => Value.int .i64 (z : Int)) hc.symm) rfl))), hS2, by omega⟩, by omega⟩
  · refine wp_exit ?_
    refine then_e ?_
    refine then_e ?_
    refine blk_hit ?_
    refine then_n ?_
    refine seq_reg ?_
    refine o_move (v := (.int .i64 ((Sp.cnt (Sp.cov la) k : Nat) : Int))) rfl ?_
    refine o_assign (v := (.int .i64 ((Sp.cnt (Sp.cov la) k : Nat) : Int))) rfl ?_
    refine wpList_nil ?_
    refine then_n ?_
    refine wp_ret ?_
    refine ret1 rfl (show ev _ _ _ = (.int .i64 ((Sp.cnt (Sp.cov la) k : Nat) : Int)) from rfl) ?_
    obtain rfl : k = 10000 := by omega
    exact ⟨rfl, hS2.done.forget⟩


end Go.Proofs.Ytddgjdaobcbcaaa
