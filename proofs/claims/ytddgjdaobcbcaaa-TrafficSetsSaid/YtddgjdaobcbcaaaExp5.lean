/- What a call answers, and that it leaves the memory that was there as it was: flagstone/traffic.Union$1, flagstone/traffic.Common$1, flagstone/traffic.Minus$1, flagstone/traffic.First$1, flagstone/traffic.Union, flagstone/traffic.Common, flagstone/traffic.Minus, flagstone/traffic.First, flagstone/traffic.Normal, flagstone/traffic.Size. Conditions: those of each statement (that the arguments can be read). -/
import Derived.Test.YtddgjdaobcbcaaaRows
import Derived.Test.YtddgjdaobcbcaaaFlDraw
import Derived.KernelRfl
import Derived.Test.YtddgjdaobcbcaaaExp4
namespace Go.Proofs.Ytddgjdaobcbcaaa
open Go Go.RowKit Go.Fl

theorem c_union1 {σ : Hv} {w : World} {bp : Nat} (p : Nat → Bool) (k : Nat) (hV : View σ w) (hp : VRow σ ⟨bp, 0, none⟩ (brow 10000 p)) (hk : k < 10000) :
    Calls Try.prog 27 #[(.int .i64 ((k : Nat) : Int)), (.pointer (some ⟨bp, 0, none⟩))] w fun e w1 => e = .returned (.bool (p k)) ∧ Grow [] σ w σ w1 := by
  refine enter Try.func27 rfl rfl rfl ?_
  have _hk := hk
  have hS := St.start hV
  refine seq_reg ?_
  refine o_assign (v := (.bool false)) rfl ?_
  refine wpList_nil ?_
  refine then_n ?_
  refine seq_reg ?_
  refine o_move (v := (.int .i64 ((k : Nat) : Int))) rfl ?_
  refine o_iaddr_arr (k := k) (a' := ⟨bp, k, none⟩) rfl rfl (by omega) (by omega) Try.underlying42 Try.sizeOf4 (by simp [addr_lit]) ?_
  refine o_load (v := (.bool (p k))) rfl Try.isAgg4 (hp.cell hS.view k (brow_at (by omega)) (addr0 _ _)) ?_
  refine o_assign (v := (.bool (p k))) rfl ?_
  refine wpList_nil ?_
  refine then_n ?_
  refine wp_ret ?_
  refine ret1 rfl (show ev _ _ _ = (.bool (p k)) from rfl) ?_
  exact ⟨by simp [*], hS.done⟩

theorem c_common1 {σ : Hv} {w : World} {bp : Nat} {bq : Nat} (p : Nat → Bool) (q : Nat → Bool) (k : Nat) (hV : View σ w) (hp : VRow σ ⟨bp, 0, none⟩ (brow 10000 p)) (hq : VRow σ ⟨bq, 0, none⟩ (brow 10000 q)) (hk : k < 10000) :
    Calls Try.prog 28 #[(.int .i64 ((k : Nat) : Int)), (.pointer (some ⟨bp, 0, none⟩)), (.pointer (some ⟨bq, 0, none⟩))] w fun e w1 => e = .returned (.bool (p k && q k)) ∧ Grow [] σ w σ w1 := by
  refine enter Try.func28 rfl rfl rfl ?_
  have _hk := hk
  have hS := St.start hV
  refine seq_reg ?_
  refine o_assign (v := (.bool false)) rfl ?_
  refine wpList_nil ?_
  refine then_n ?_
  refine seq_reg ?_
  refine o_move (v := (.int .i64 ((k : Nat) : Int))) rfl ?_
  refine o_iaddr_arr (k := k) (a' := ⟨bp, k, none⟩) rfl rfl (by omega) (by omega) Try.underlying42 Try.sizeOf4 (by simp [addr_lit]) ?_
  refine o_load (v := (.bool (p k))) rfl Try.isAgg4 (hp.cell hS.view k (brow_at (by omega)) (addr0 _ _)) ?_
  rcases Bool.eq_false_or_eq_true (p k) with hb1 | hb1
  · refine o_move (v := (.bool true)) (congrArg Value.bool hb1) ?_
    refine o_on rfl rfl ?_
    refine o_move (v := (.int .i64 ((k : Nat) : Int))) rfl ?_
    refine o_on rfl rfl ?_
    refine o_iaddr_arr (k := k) (a' := ⟨bq, k, none⟩) rfl rfl (by omega) (by omega) Try.underlying42 Try.sizeOf4 (by simp [addr_lit]) ?_
    refine o_on rfl rfl ?_
    refine o_load (v := (.bool (q k))) rfl Try.isAgg4 (hq.cell hS.view k (brow_at (by omega)) (addr0 _ _)) ?_
    refine o_pick_t (v := (.bool (q k))) rfl rfl ?_
    refine o_assign (v := (.bool (q k))) rfl ?_
    refine wpList_nil ?_
    refine then_n ?_
    refine wp_ret ?_
    refine ret1 rfl (show ev _ _ _ = (.bool (q k)) from rfl) ?_
    exact ⟨by simp [*], hS.done⟩
  · refine o_move (v := (.bool false)) (congrArg Value.bool hb1) ?_
    refine o_off rfl rfl ?_
    refine o_off rfl rfl ?_
    refine o_off rfl rfl ?_
    refine o_pick_f (v := (.bool false)) rfl rfl ?_
    refine o_assign (v := (.bool false)) rfl ?_
    refine wpList_nil ?_
    refine then_n ?_
    refine wp_ret ?_
    refine ret1 rfl (show ev _ _ _ = (.bool false) from rfl) ?_
    exact ⟨by simp [*], hS.done⟩

theorem c_minus1 {σ : Hv} {w : World} {bp : Nat} {bq : Nat} (p : Nat → Bool) (q : Nat → Bool) (k : Nat) (hV : View σ w) (hp : VRow σ ⟨bp, 0, none⟩ (brow 10000 p)) (hq : VRow σ ⟨bq, 0, none⟩ (brow 10000 q)) (hk : k < 10000) :
    Calls Try.prog 29 #[(.int .i64 ((k : Nat) : Int)), (.pointer (some ⟨bp, 0, none⟩)), (.pointer (some ⟨bq, 0, none⟩))] w fun e w1 => e = .returned (.bool (p k && !q k)) ∧ Grow [] σ w σ w1 := by
  refine enter Try.func29 rfl rfl rfl ?_
  have _hk := hk
  have hS := St.start hV
  refine seq_reg ?_
  refine o_assign (v := (.bool false)) rfl ?_
  refine wpList_nil ?_
  refine then_n ?_
  refine seq_reg ?_
  refine o_move (v := (.int .i64 ((k : Nat) : Int))) rfl ?_
  refine o_iaddr_arr (k := k) (a' := ⟨bp, k, none⟩) rfl rfl (by omega) (by omega) Try.underlying42 Try.sizeOf4 (by simp [addr_lit]) ?_
  refine o_load (v := (.bool (p k))) rfl Try.isAgg4 (hp.cell hS.view k (brow_at (by omega)) (addr0 _ _)) ?_
  rcases Bool.eq_false_or_eq_true (p k) with hb1 | hb1
  · refine o_move (v := (.bool true)) (congrArg Value.bool hb1) ?_
    refine o_on rfl rfl ?_
    refine o_move (v := (.int .i64 ((k : Nat) : Int))) rfl ?_
    refine o_on rfl rfl ?_
    refine o_iaddr_arr (k := k) (a' := ⟨bq, k, none⟩) rfl rfl (by omega) (by omega) Try.underlying42 Try.sizeOf4 (by simp [addr_lit]) ?_
    refine o_on rfl rfl ?_
    refine o_load (v := (.bool (q k))) rfl Try.isAgg4 (hq.cell hS.view k (brow_at (by omega)) (addr0 _ _)) ?_
    refine o_on rfl rfl ?_
    refine o_not (r := (!q k)) rfl rfl ?_
    refine o_pick_t (v := (.bool (!q k))) rfl rfl ?_
    refine o_assign (v := (.bool (!q k))) rfl ?_
    refine wpList_nil ?_
    refine then_n ?_
    refine wp_ret ?_
    refine ret1 rfl (show ev _ _ _ = (.bool (!q k)) from rfl) ?_
    exact ⟨by simp [*], hS.done⟩
  · refine o_move (v := (.bool false)) (congrArg Value.bool hb1) ?_
    refine o_off rfl rfl ?_
    refine o_off rfl rfl ?_
    refine o_off rfl rfl ?_
    refine o_off rfl rfl ?_
    refine o_pick_f (v := (.bool false)) rfl rfl ?_
    refine o_assign (v := (.bool false)) rfl ?_
    refine wpList_nil ?_
    refine then_n ?_
    refine wp_ret ?_
    refine ret1 rfl (show ev _ _ _ = (.bool false) from rfl) ?_
    exact ⟨by simp [*], hS.done⟩

theorem c_first1 {σ : Hv} {w : World} {bp bn : Nat} (p : Nat → Bool) (n : Int) (k : Nat) (hV : View σ w) (hp : VRow σ ⟨bp, 0, none⟩ (brow 10000 p)) (ho : (blk bn 3 [.int .i64 (Sp.leftN p n k)]).ok w) (hσ : σ bn = none) (hk : k < 10000) (hn : -9223372036854775808 ≤ n) (hn2 : n ≤ 9223372036854775807) :
    Calls Try.prog 32 #[(.int .i64 ((k : Nat) : Int)), (.pointer (some ⟨bp, 0, none⟩)), (.pointer (some ⟨bn, 0, none⟩))] w fun e w1 => e = .returned (.bool (Sp.firstP p n k)) ∧ Grow [bn] σ w σ w1 ∧ (blk bn 3 [.int .i64 (Sp.leftN p n (k + 1))]).ok w1 := by
  have hl := Sp.leftN_le p n k
  refine enter Try.func32 rfl rfl rfl ?_
  have _hk := hk
  have hS := St.start1 hV ho rfl hσ
  refine seq_reg ?_
  refine o_assign (v := (.bool false)) rfl ?_
  refine wpList_nil ?_
  refine then_n ?_
  refine wp_seq ?_
  refine seq_reg ?_
  refine o_move (v := (.int .i64 ((k : Nat) : Int))) rfl ?_
  refine o_iaddr_arr (k := k) (a' := ⟨bp, k, none⟩) rfl rfl (by omega) (by omega) Try.underlying42 Try.sizeOf4 (by simp [addr_lit]) ?_
  refine o_load (v := (.bool (p k))) rfl Try.isAgg4 (hp.cell hS.view k (brow_at (by omega)) (addr0 _ _)) ?_
  refine o_not (r := (!p k)) rfl rfl ?_
  rcases Bool.eq_false_or_eq_true (p k) with hb1 | hb1
  · refine o_move (v := (.bool false)) (congrArg Value.bool (congrArg Bool.not hb1)) ?_
    refine o_on rfl rfl ?_
    refine o_load (v := (.int .i64 (Sp.leftN p n k))) rfl Try.isAgg3 (hS.cell (i := 0) rfl rfl) ?_
    refine o_on rfl rfl ?_
    refine o_leq (r := (decide ((Sp.leftN p n k) ≤ (0 : Int)))) rfl rfl rfl ?_
    refine o_pick_f (v := (.bool (decide ((Sp.leftN p n k) ≤ (0 : Int))))) rfl rfl ?_
    refine wpList_nil ?_
    refine then_n ?_
    refine if_d ((Sp.leftN p n k) ≤ (0 : Int)) rfl (fun ht1 => ?_) (fun ht1 => ?_)
    · refine seq_reg ?_
      refine o_assign (v := (.bool false)) rfl ?_
      refine wpList_nil ?_
      refine then_n ?_
      refine wp_ret ?_
      refine then_r ?_
      refine ret1 rfl (show ev _ _ _ = (.bool false) from rfl) ?_
      have hg := hS.get (i := 0) rfl
      refine ⟨?_, hS.done, ?_⟩
      · first | (simp [Sp.firstP, *]; done) | (simp [Sp.firstP, *]; omega)
      rw [Sp.leftN]
      by_cases hq : p k = true ∧ 0 < Sp.leftN p n k
      · rw [if_pos hq]; first | exact hg | (exfalso; have h1 := hq.1; have h2 := hq.2; first | omega | simp_all)
      · rw [if_neg hq]; first | exact hg | (exfalso; exact hq ⟨by assumption, by omega⟩)
    · refine wp_skip ?_
      refine then_n ?_
      refine seq_reg ?_
      refine o_load (v := (.int .i64 (Sp.leftN p n k))) rfl Try.isAgg3 (hS.cell (i := 0) rfl rfl) ?_
      refine o_sub (r := ((Sp.leftN p n k) - (1 : Int))) rfl rfl (nw (by omega) (by omega) (by omega)) ?_
      refine o_store (T := 3) (vs := [(.int .i64 ((Sp.leftN p n k) - (1 : Int)))]) (cs' := [(.int .i64 ((Sp.leftN p n k) - (1 : Int)))]) (ms' := [blk bn 3 [(.int .i64 ((Sp.leftN p n k) - (1 : Int)))]]) (i := 0) hS rfl rfl rfl Try.sizeOf3 rfl (ones rfl) rfl (Nat.le_of_ble_eq_true rfl) rfl rfl ?_
      intro w1 hS1
      refine wpList_nil ?_
      refine then_n ?_
      refine seq_reg ?_
      refine o_assign (v := (.bool true)) rfl ?_
      refine wpList_nil ?_
      refine then_n ?_
      refine wp_ret ?_
      refine ret1 rfl (show ev _ _ _ = (.bool true) from rfl) ?_
      have hg := hS1.get (i := 0) rfl
      refine ⟨?_, hS1.done, ?_⟩
      · first | (simp [Sp.firstP, *]; done) | (simp [Sp.firstP, *]; omega)
      rw [Sp.leftN]
      by_cases hq : p k = true ∧ 0 < Sp.leftN p n k
      · rw [if_pos hq]; first | exact hg | (exfalso; have h1 := hq.1; have h2 := hq.2; first | omega | simp_all)
      · rw [if_neg hq]; first | exact hg | (exfalso; exact hq ⟨by assumption, by omega⟩)
  · refine o_move (v := (.bool true)) (congrArg Value.bool (congrArg Bool.not hb1)) ?_
    refine o_off rfl rfl ?_
    refine o_off rfl rfl ?_
    refine o_pick_t (v := (.bool true)) rfl rfl ?_
    refine wpList_nil ?_
    refine then_n ?_
    refine if_t rfl ?_
    refine seq_reg ?_
    refine o_assign (v := (.bool false)) rfl ?_
    refine wpList_nil ?_
    refine then_n ?_
    refine wp_ret ?_
    refine then_r ?_
    refine ret1 rfl (show ev _ _ _ = (.bool false) from rfl) ?_
    have hg := hS.get (i := 0) rfl
    refine ⟨?_, hS.done, ?_⟩
    · first | (simp [Sp.firstP, *]; done) | (simp [Sp.firstP, *]; omega)
    rw [Sp.leftN]
    by_cases hq : p k = true ∧ 0 < Sp.leftN p n k
    · rw [if_pos hq]; first | exact hg | (exfalso; have h1 := hq.1; have h2 := hq.2; first | omega | simp_all)
    · rw [if_neg hq]; first | exact hg | (exfalso; exact hq ⟨by assumption, by omega⟩)

theorem c_Union {σ : Hv} {w : World} (a : Value) (b : Value) (la : List (Int × Int)) (lb : List (Int × Int)) (hV : View σ w) (ha : RSl 2 (REnc encSp) σ a la) (hb : RSl 2 (REnc encSp) σ b lb) :
    Calls Try.prog 7 #[a, b] w fun e w1 => ∃ (v : Value) (σ1 : Hv), e = .returned v ∧ Grow [] σ w σ1 w1 ∧ RSl 2 (REnc encSp) σ1 v (Sp.runs (fun i => Sp.cov la i || Sp.cov lb i) 10000) := by
  refine enter Try.func7 rfl rfl rfl ?_
  have hS := St.start hV
  obtain ⟨xa, ca, ea⟩ := ha.shape
  subst ea
  obtain ⟨xb, cb, eb⟩ := hb.shape
  subst eb
  refine seq_reg ?_
  refine o_assign (v := (.slice none 0 0)) rfl ?_
  refine wpList_nil ?_
  refine then_n ?_
  refine seq_reg ?_
  refine o_move (v := (.slice xa la.length ca)) rfl ?_
  refine o_move (v := (.slice xb lb.length cb)) rfl ?_
  refine o_bslice (cs := [(.slice xa la.length ca), (.slice xb lb.length cb)]) (e := 24) hS (fun _ => by kernel_rfl) ?_
  intro b1 w1 hS1
  obtain ⟨σ1, hS2, hsub1, hfr1⟩ := hS1.freeze (i := 0) rfl rfl rfl
  have hvr1 := vrow_blk (hS1.get (i := 0) rfl) hfr1
  refine o_call (args := [(.slice (some ⟨b1, 0, none⟩) 2 2)]) rfl Try.call25 (Calls.mono (c_of _ [la, lb] hS2.view (rsl2 (size := 1) (cs := [_]) (ds := [_]) hvr1 rfl rfl ⟨_, rfl, (RSl.menc hsub1 ha)⟩ ⟨_, rfl, (RSl.menc hsub1 hb)⟩) (by have := (RSl.len (RSl.menc hsub1 ha)); have := (RSl.len (RSl.menc hsub1 hb)); simp; omega)) ?_)
  rintro _ w2 ⟨rfl, hg1⟩
  refine ⟨_, rfl, ?_⟩
  have hS3 := hS2.grow hg1
  refine o_alloc (cs := brow 10000 (fun i => false)) hS3 (zero_rep Try.type42 (isRep_eq zB_eq z_set) (by omega)) (by simp [Value.cells, brow_zero]) ?_
  intro b2 w3 hS4
  refine o_store (T := 42) (vs := brow 10000 (Sp.cov [la, lb].flatten)) (cs' := brow 10000 (Sp.cov [la, lb].flatten)) (ms' := [blk b2 42 (brow 10000 (Sp.cov [la, lb].flatten))]) (i := 0) hS4 rfl rfl (cells_agg _) Try.sizeOf42 (brow_len _ _) (brow_ones _ _) rfl (by simp [brow_len]) (splice_all (by simp [brow_len])) rfl ?_
  intro w4 hS5
  refine wpList_nil ?_
  refine then_n ?_
  refine seq_reg ?_
  refine o_makefunc (la := []) (lb := [(.pointer (some ⟨b2, 0, none⟩))]) rfl rfl ?_
  obtain ⟨σ2, hS6, hsub2, hfr2⟩ := hS5.freeze (i := 0) rfl rfl rfl
  have hvr2 := vrow_blk (hS5.get (i := 0) rfl) hfr2
  refine o_call (args := [(.func (.func 27) #[] #[(.pointer (some ⟨b2, 0, none⟩))])]) rfl Try.call26 (Calls.mono (c_spans 27 [(.pointer (some ⟨b2, 0, none⟩))] (Sp.cov [la, lb].flatten) (fun _ => noObj) none (fun _ => rfl) Try.call27 (fun k w1 hk hV1 _ => (c_union1 _ k hV1 hvr2 hk).mono (fun e w2 h => ⟨h.1, h.2, trivial⟩)) hS6.view trivial (by rintro k ⟨⟩)) ?_)
  rintro _ w5 ⟨v1, σ3, rfl, hg2, hrd1, _⟩
  refine ⟨_, rfl, ?_⟩
  have hS7 := hS6.grow hg2
  refine o_assign (v := v1) rfl ?_
  refine wpList_nil ?_
  refine then_n ?_
  refine wp_ret ?_
  refine ret1 rfl (show ev _ _ _ = v1 from rfl) ?_
  have hE : Sp.runs (fun i => Sp.cov la i || Sp.cov lb i) 10000 = (Sp.runs (Sp.cov [la, lb].flatten) 10000) := Sp.runs_congr (fun i hi => (Sp.cov_two la lb i).symm)
  exact ⟨v1, σ3, rfl, hS7.done, by rw [hE]; exact hrd1⟩

theorem c_Common {σ : Hv} {w : World} (a : Value) (b : Value) (la : List (Int × Int)) (lb : List (Int × Int)) (hV : View σ w) (ha : RSl 2 (REnc encSp) σ a la) (hb : RSl 2 (REnc encSp) σ b lb) :
    Calls Try.prog 8 #[a, b] w fun e w1 => ∃ (v : Value) (σ1 : Hv), e = .returned v ∧ Grow [] σ w σ1 w1 ∧ RSl 2 (REnc encSp) σ1 v (Sp.runs (fun i => Sp.cov la i && Sp.cov lb i) 10000) := by
  refine enter Try.func8 rfl rfl rfl ?_
  have hS := St.start hV
  obtain ⟨xa, ca, ea⟩ := ha.shape
  subst ea
  obtain ⟨xb, cb, eb⟩ := hb.shape
  subst eb
  refine seq_reg ?_
  refine o_assign (v := (.slice none 0 0)) rfl ?_
  refine wpList_nil ?_
  refine then_n ?_
  refine seq_reg ?_
  refine o_move (v := (.slice xa la.length ca)) rfl ?_
  refine o_bslice (cs := [(.slice xa la.length ca)]) (e := 24) hS (fun _ => by kernel_rfl) ?_
  intro b1 w1 hS1
  obtain ⟨σ1, hS2, hsub1, hfr1⟩ := hS1.freeze (i := 0) rfl rfl rfl
  have hvr1 := vrow_blk (hS1.get (i := 0) rfl) hfr1
  refine o_call (args := [(.slice (some ⟨b1, 0, none⟩) 1 1)]) rfl Try.call25 (Calls.mono (c_of _ [la] hS2.view (rsl1 (size := 1) hvr1 rfl ⟨_, rfl, (RSl.menc hsub1 ha)⟩) (by have := (RSl.len (RSl.menc hsub1 ha)); simp; omega)) ?_)
  rintro _ w2 ⟨rfl, hg1⟩
  refine ⟨_, rfl, ?_⟩
  have hS3 := hS2.grow hg1
  refine o_move (v := (.slice xb lb.length cb)) rfl ?_
  refine o_bslice (cs := [(.slice xb lb.length cb)]) (e := 24) hS3 (fun _ => by kernel_rfl) ?_
  intro b2 w3 hS4
  obtain ⟨σ2, hS5, hsub2, hfr2⟩ := hS4.freeze (i := 0) rfl rfl rfl
  have hvr2 := vrow_blk (hS4.get (i := 0) rfl) hfr2
  refine o_call (args := [(.slice (some ⟨b2, 0, none⟩) 1 1)]) rfl Try.call25 (Calls.mono (c_of _ [lb] hS5.view (rsl1 (size := 1) hvr2 rfl ⟨_, rfl, (RSl.menc (Sub.trans hsub1 hsub2) hb)⟩) (by have := (RSl.len (RSl.menc (Sub.trans hsub1 hsub2) hb)); simp; omega)) ?_)
  rintro _ w4 ⟨rfl, hg2⟩
  refine ⟨_, rfl, ?_⟩
  have hS6 := hS5.grow hg2
  refine o_alloc (cs := brow 10000 (fun i => false)) hS6 (zero_rep Try.type42 (isRep_eq zB_eq z_set) (by omega)) (by simp [Value.cells, brow_zero]) ?_
  intro b3 w5 hS7
  refine o_alloc (cs := brow 10000 (fun i => false)) hS7 (zero_rep Try.type42 (isRep_eq zB_eq z_set) (by omega)) (by simp [Value.cells, brow_zero]) ?_
  intro b4 w6 hS8
  refine o_store (T := 42) (vs := brow 10000 (Sp.cov [la].flatten)) (cs' := brow 10000 (Sp.cov [la].flatten)) (ms' := [blk b4 42 (brow 10000 (fun i => false)), blk b3 42 (brow 10000 (Sp.cov [la].flatten))]) (i := 1) hS8 rfl rfl (cells_agg _) Try.sizeOf42 (brow_len _ _) (brow_ones _ _) rfl (by simp [brow_len]) (splice_all (by simp [brow_len])) rfl ?_
  intro w7 hS9
  refine o_store (T := 42) (vs := brow 10000 (Sp.cov [lb].flatten)) (cs' := brow 10000 (Sp.cov [lb].flatten)) (ms' := [blk b4 42 (brow 10000 (Sp.cov [lb].flatten)), blk b3 42 (brow 10000 (Sp.cov [la].flatten))]) (i := 0) hS9 rfl rfl (cells_agg _) Try.sizeOf42 (brow_len _ _) (brow_ones _ _) rfl (by simp [brow_len]) (splice_all (by simp [brow_len])) rfl ?_
  intro w8 hS10
  refine wpList_nil ?_
  refine then_n ?_
  refine seq_reg ?_
  refine o_makefunc (la := []) (lb := [(.pointer (some ⟨b3, 0, none⟩)), (.pointer (some ⟨b4, 0, none⟩))]) rfl rfl ?_
  obtain ⟨σ3, hS11, hsub3, hfr3⟩ := hS10.freeze (i := 1) rfl rfl rfl
  have hvr3 := vrow_blk (hS10.get (i := 1) rfl) hfr3
  obtain ⟨σ4, hS12, hsub4, hfr4⟩ := hS11.freeze (i := 0) rfl rfl rfl
  have hvr4 := vrow_blk (hS11.get (i := 0) rfl) hfr4
  refine o_call (args := [(.func (.func 28) #[] #[(.pointer (some ⟨b3, 0, none⟩)), (.pointer (some ⟨b4, 0, none⟩))])]) rfl Try.call26 (Calls.mono (c_spans 28 [(.pointer (some ⟨b3, 0, none⟩)), (.pointer (some ⟨b4, 0, none⟩))] (fun i => Sp.cov [la].flatten i && Sp.cov [lb].flatten i) (fun _ => noObj) none (fun _ => rfl) Try.call28 (fun k w1 hk hV1 _ => (c_common1 _ _ k hV1 (hvr3.mono hsub4) hvr4 hk).mono (fun e w2 h => ⟨h.1, h.2, trivial⟩)) hS12.view trivial (by rintro k ⟨⟩)) ?_)
  rintro _ w9 ⟨v1, σ5, rfl, hg3, hrd1, _⟩
  refine ⟨_, rfl, ?_⟩
  have hS13 := hS12.grow hg3
  refine o_assign (v := v1) rfl ?_
  refine wpList_nil ?_
  refine then_n ?_
  refine wp_ret ?_
  refine ret1 rfl (show ev _ _ _ = v1 from rfl) ?_
  have hE : Sp.runs (fun i => Sp.cov la i && Sp.cov lb i) 10000 = (Sp.runs (fun i => Sp.cov [la].flatten i && Sp.cov [lb].flatten i) 10000) := Sp.runs_congr (fun i hi => by rw [← Sp.cov_one la, ← Sp.cov_one lb])
  exact ⟨v1, σ5, rfl, hS13.done, by rw [hE]; exact hrd1⟩

theorem c_Minus {σ : Hv} {w : World} (a : Value) (b : Value) (la : List (Int × Int)) (lb : List (Int × Int)) (hV : View σ w) (ha : RSl 2 (REnc encSp) σ a la) (hb : RSl 2 (REnc encSp) σ b lb) :
    Calls Try.prog 9 #[a, b] w fun e w1 => ∃ (v : Value) (σ1 : Hv), e = .returned v ∧ Grow [] σ w σ1 w1 ∧ RSl 2 (REnc encSp) σ1 v (Sp.runs (fun i => Sp.cov la i && !Sp.cov lb i) 10000) := by
  refine enter Try.func9 rfl rfl rfl ?_
  have hS := St.start hV
  obtain ⟨xa, ca, ea⟩ := ha.shape
  subst ea
  obtain ⟨xb, cb, eb⟩ := hb.shape
  subst eb
  refine seq_reg ?_
  refine o_assign (v := (.slice none 0 0)) rfl ?_
  refine wpList_nil ?_
  refine then_n ?_
  refine seq_reg ?_
  refine o_move (v := (.slice xa la.length ca)) rfl ?_
  refine o_bslice (cs := [(.slice xa la.length ca)]) (e := 24) hS (fun _ => by kernel_rfl) ?_
  intro b1 w1 hS1
  obtain ⟨σ1, hS2, hsub1, hfr1⟩ := hS1.freeze (i := 0) rfl rfl rfl
  have hvr1 := vrow_blk (hS1.get (i := 0) rfl) hfr1
  refine o_call (args := [(.slice (some ⟨b1, 0, none⟩) 1 1)]) rfl Try.call25 (Calls.mono (c_of _ [la] hS2.view (rsl1 (size := 1) hvr1 rfl ⟨_, rfl, (RSl.menc hsub1 ha)⟩) (by have := (RSl.len (RSl.menc hsub1 ha)); simp; omega)) ?_)
  rintro _ w2 ⟨rfl, hg1⟩
  refine ⟨_, rfl, ?_⟩
  have hS3 := hS2.grow hg1
  refine o_move (v := (.slice xb lb.length cb)) rfl ?_
  refine o_bslice (cs := [(.slice xb lb.length cb)]) (e := 24) hS3 (fun _ => by kernel_rfl) ?_
  intro b2 w3 hS4
  obtain ⟨σ2, hS5, hsub2, hfr2⟩ := hS4.freeze (i := 0) rfl rfl rfl
  have hvr2 := vrow_blk (hS4.get (i := 0) rfl) hfr2
  refine o_call (args := [(.slice (some ⟨b2, 0, none⟩) 1 1)]) rfl Try.call25 (Calls.mono (c_of _ [lb] hS5.view (rsl1 (size := 1) hvr2 rfl ⟨_, rfl, (RSl.menc (Sub.trans hsub1 hsub2) hb)⟩) (by have := (RSl.len (RSl.menc (Sub.trans hsub1 hsub2) hb)); simp; omega)) ?_)
  rintro _ w4 ⟨rfl, hg2⟩
  refine ⟨_, rfl, ?_⟩
  have hS6 := hS5.grow hg2
  refine o_alloc (cs := brow 10000 (fun i => false)) hS6 (zero_rep Try.type42 (isRep_eq zB_eq z_set) (by omega)) (by simp [Value.cells, brow_zero]) ?_
  intro b3 w5 hS7
  refine o_alloc (cs := brow 10000 (fun i => false)) hS7 (zero_rep Try.type42 (isRep_eq zB_eq z_set) (by omega)) (by simp [Value.cells, brow_zero]) ?_
  intro b4 w6 hS8
  refine o_store (T := 42) (vs := brow 10000 (Sp.cov [la].flatten)) (cs' := brow 10000 (Sp.cov [la].flatten)) (ms' := [blk b4 42 (brow 10000 (fun i => false)), blk b3 42 (brow 10000 (Sp.cov [la].flatten))]) (i := 1) hS8 rfl rfl (cells_agg _) Try.sizeOf42 (brow_len _ _) (brow_ones _ _) rfl (by simp [brow_len]) (splice_all (by simp [brow_len])) rfl ?_
  intro w7 hS9
  refine o_store (T := 42) (vs := brow 10000 (Sp.cov [lb].flatten)) (cs' := brow 10000 (Sp.cov [lb].flatten)) (ms' := [blk b4 42 (brow 10000 (Sp.cov [lb].flatten)), blk b3 42 (brow 10000 (Sp.cov [la].flatten))]) (i := 0) hS9 rfl rfl (cells_agg _) Try.sizeOf42 (brow_len _ _) (brow_ones _ _) rfl (by simp [brow_len]) (splice_all (by simp [brow_len])) rfl ?_
  intro w8 hS10
  refine wpList_nil ?_
  refine then_n ?_
  refine seq_reg ?_
  refine o_makefunc (la := []) (lb := [(.pointer (some ⟨b3, 0, none⟩)), (.pointer (some ⟨b4, 0, none⟩))]) rfl rfl ?_
  obtain ⟨σ3, hS11, hsub3, hfr3⟩ := hS10.freeze (i := 1) rfl rfl rfl
  have hvr3 := vrow_blk (hS10.get (i := 1) rfl) hfr3
  obtain ⟨σ4, hS12, hsub4, hfr4⟩ := hS11.freeze (i := 0) rfl rfl rfl
  have hvr4 := vrow_blk (hS11.get (i := 0) rfl) hfr4
  refine o_call (args := [(.func (.func 29) #[] #[(.pointer (some ⟨b3, 0, none⟩)), (.pointer (some ⟨b4, 0, none⟩))])]) rfl Try.call26 (Calls.mono (c_spans 29 [(.pointer (some ⟨b3, 0, none⟩)), (.pointer (some ⟨b4, 0, none⟩))] (fun i => Sp.cov [la].flatten i && !Sp.cov [lb].flatten i) (fun _ => noObj) none (fun _ => rfl) Try.call29 (fun k w1 hk hV1 _ => (c_minus1 _ _ k hV1 (hvr3.mono hsub4) hvr4 hk).mono (fun e w2 h => ⟨h.1, h.2, trivial⟩)) hS12.view trivial (by rintro k ⟨⟩)) ?_)
  rintro _ w9 ⟨v1, σ5, rfl, hg3, hrd1, _⟩
  refine ⟨_, rfl, ?_⟩
  have hS13 := hS12.grow hg3
  refine o_assign (v := v1) rfl ?_
  refine wpList_nil ?_
  refine then_n ?_
  refine wp_ret ?_
  refine ret1 rfl (show ev _ _ _ = v1 from rfl) ?_
  have hE : Sp.runs (fun i => Sp.cov la i && !Sp.cov lb i) 10000 = (Sp.runs (fun i => Sp.cov [la].flatten i && !Sp.cov [lb].flatten i) 10000) := Sp.runs_congr (fun i hi => by rw [← Sp.cov_one la, ← Sp.cov_one lb])
  exact ⟨v1, σ5, rfl, hS13.done, by rw [hE]; exact hrd1⟩

theorem c_First {σ : Hv} {w : World} (a : Value) (la : List (Int × Int)) (n : Int) (hV : View σ w) (ha : RSl 2 (REnc encSp) σ a la) (hn : -9223372036854775808 ≤ n) (hn2 : n ≤ 9223372036854775807) :
    Calls Try.prog 19 #[a, (.int .i64 n)] w fun e w1 => ∃ (v : Value) (σ1 : Hv), e = .returned v ∧ Grow [] σ w σ1 w1 ∧ RSl 2 (REnc encSp) σ1 v (Sp.runs (Sp.firstP (Sp.cov la) n) 10000) := by
  refine enter Try.func19 rfl rfl rfl ?_
  have hS := St.start hV
  obtain ⟨xa, ca, ea⟩ := ha.shape
  subst ea
  refine seq_reg ?_
  refine o_box (cs := [(.int .i64 n)]) hS rfl rfl ?_
  intro b1 w1 hS1
  refine o_assign (v := (.slice none 0 0)) rfl ?_
  refine wpList_nil ?_
  refine then_n ?_
  refine seq_reg ?_
  refine o_move (v := (.slice xa la.length ca)) rfl ?_
  refine o_bslice (cs := [(.slice xa la.length ca)]) (e := 24) hS1 (fun _ => by kernel_rfl) ?_
  intro b2 w2 hS2
  obtain ⟨σ1, hS3, hsub1, hfr1⟩ := hS2.freeze (i := 0) rfl rfl rfl
  have hvr1 := vrow_blk (hS2.get (i := 0) rfl) hfr1
  refine o_call (args := [(.slice (some ⟨b2, 0, none⟩) 1 1)]) rfl Try.call25 (Calls.mono (c_of _ [la] hS3.view (rsl1 (size := 1) hvr1 rfl ⟨_, rfl, (RSl.menc hsub1 ha)⟩) (by have := (RSl.len (RSl.menc hsub1 ha)); simp; omega)) ?_)
  rintro _ w3 ⟨rfl, hg1⟩
  refine ⟨_, rfl, ?_⟩
  have hS4 := hS3.grow hg1
  refine o_alloc (cs := brow 10000 (fun i => false)) hS4 (zero_rep Try.type42 (isRep_eq zB_eq z_set) (by omega)) (by simp [Value.cells, brow_zero]) ?_
  intro b3 w4 hS5
  refine o_store (T := 42) (vs := brow 10000 (Sp.cov [la].flatten)) (cs' := brow 10000 (Sp.cov [la].flatten)) (ms' := [blk b3 42 (brow 10000 (Sp.cov [la].flatten)), blk b1 3 [(.int .i64 n)]]) (i := 0) hS5 rfl rfl (cells_agg _) Try.sizeOf42 (brow_len _ _) (brow_ones _ _) rfl (by simp [brow_len]) (splice_all (by simp [brow_len])) rfl ?_
  intro w5 hS6
  refine wpList_nil ?_
  refine then_n ?_
  refine seq_reg ?_
  refine o_makefunc (la := []) (lb := [(.pointer (some ⟨b3, 0, none⟩)), (.pointer (some ⟨b1, 0, none⟩))]) rfl rfl ?_
  obtain ⟨σ2, hS7, hsub2, hfr2⟩ := hS6.freeze (i := 0) rfl rfl rfl
  have hvr2 := vrow_blk (hS6.get (i := 0) rfl) hfr2
  refine o_call (args := [(.func (.func 32) #[] #[(.pointer (some ⟨b3, 0, none⟩)), (.pointer (some ⟨b1, 0, none⟩))])]) rfl Try.call26 (Calls.mono (c_spans 32 [(.pointer (some ⟨b3, 0, none⟩)), (.pointer (some ⟨b1, 0, none⟩))] (Sp.firstP (Sp.cov [la].flatten) n) (fun k => blk b1 3 [.int .i64 (Sp.leftN (Sp.cov [la].flatten) n k)]) (some b1) (fun _ => rfl) Try.call32 (fun k w1 hk hV1 ho => c_first1 _ n k hV1 hvr2 ho ((hS7.off _ (List.mem_of_getElem? (i := 0) rfl)) _ rfl) hk (by omega) (by omega)) hS7.view (hS7.get (i := 0) rfl) (hS7.off _ (List.mem_of_getElem? (i := 0) rfl))) ?_)
  rintro _ w6 ⟨v1, σ3, rfl, hg2, hrd1, ho1⟩
  refine ⟨_, rfl, ?_⟩
  have hS8 := hS7.growM hg2 (i := 0) (o' := blk b1 3 [.int .i64 (Sp.leftN (Sp.cov [la].flatten) n 10000)]) rfl rfl rfl ho1 rfl
  refine o_assign (v := v1) rfl ?_
  refine wpList_nil ?_
  refine then_n ?_
  refine wp_ret ?_
  refine ret1 rfl (show ev _ _ _ = v1 from rfl) ?_
  have hE : Sp.runs (Sp.firstP (Sp.cov la) n) 10000 = (Sp.runs (Sp.firstP (Sp.cov [la].flatten) n) 10000) := Sp.runs_congr (fun i hi => Sp.firstP_congr (fun j _ => (Sp.cov_one la j).symm))
  exact ⟨v1, σ3, rfl, hS8.done, by rw [hE]; exact hrd1⟩

theorem c_Normal {σ : Hv} {w : World} (a : Value) (la : List (Int × Int)) (hV : View σ w) (ha : RSl 2 (REnc encSp) σ a la) :
    Calls Try.prog 12 #[a] w fun e w1 => ∃ (v : Value) (σ1 : Hv), e = .returned v ∧ Grow [] σ w σ1 w1 ∧ RSl 2 (REnc encSp) σ1 v (Sp.runs (Sp.cov la) 10000) := by
  refine enter Try.func12 rfl rfl rfl ?_
  have hS := St.start hV
  obtain ⟨xa, ca, ea⟩ := ha.shape
  subst ea
  refine seq_reg ?_
  refine o_assign (v := (.slice none 0 0)) rfl ?_
  refine wpList_nil ?_
  refine then_n ?_
  refine seq_reg ?_
  refine o_move (v := (.slice xa la.length ca)) rfl ?_
  refine o_call (args := [(.slice xa la.length ca), (.slice none 0 0)]) rfl Try.call7 (Calls.mono (c_Union _ _ la [] hS.view ha RSl.nil) ?_)
  rintro _ w1 ⟨v1, σ1, rfl, hg1, hrd1⟩
  refine ⟨_, rfl, ?_⟩
  have hS1 := hS.grow hg1
  obtain ⟨xa1, ca1, he1⟩ := hrd1.shape
  subst he1
  refine o_assign (v := (.slice xa1 ((Sp.runs (fun i => Sp.cov la i || Sp.cov [] i) 10000)).length ca1)) rfl ?_
  refine wpList_nil ?_
  refine then_n ?_
  refine wp_ret ?_
  refine ret1 rfl (show ev _ _ _ = (.slice xa1 ((Sp.runs (fun i => Sp.cov la i || Sp.cov [] i) 10000)).length ca1) from rfl) ?_
  have hE : Sp.runs (Sp.cov la) 10000 = (Sp.runs (fun i => Sp.cov la i || Sp.cov [] i) 10000) := Sp.runs_congr (fun i hi => by rw [Sp.cov_nil, Bool.or_false])
  exact ⟨(.slice xa1 ((Sp.runs (fun i => Sp.cov la i || Sp.cov [] i) 10000)).length ca1), σ1, rfl, hS1.done, by rw [hE]; exact hrd1⟩

theorem c_Size {σ : Hv} {w : World} (a : Value) (la : List (Int × Int)) (hV : View σ w) (ha : RSl 2 (REnc encSp) σ a la) :
    Calls Try.prog 10 #[a] w fun e w1 => e = .returned (.int .i64 ((Sp.cnt (Sp.cov la) 10000 : Nat) : Int)) ∧ Grow [] σ w σ w1 := by
  refine enter Try.func10 rfl rfl rfl ?_
  have hS := St.start hV
  obtain ⟨xa, ca, ea⟩ := ha.shape
  subst ea
  refine seq_reg ?_
  refine o_assign (v := (.int .i64 (0 : Int))) rfl ?_
  refine wpList_nil ?_
  refine then_n ?_
  refine seq_reg ?_
  refine o_assign (v := (.int .i64 (0 : Int))) rfl ?_
  refine wpList_nil ?_
  refine then_n ?_
  refine wp_seq ?_
  refine seq_reg ?_
  refine o_move (v := (.slice xa la.length ca)) rfl ?_
  refine o_bslice (cs := [(.slice xa la.length ca)]) (e := 24) hS (fun _ => by kernel_rfl) ?_
  intro b1 w1 hS1
  obtain ⟨σ1, hS2, hsub1, hfr1⟩ := hS1.freeze (i := 0) rfl rfl rfl
  have hvr1 := vrow_blk (hS1.get (i := 0) rfl) hfr1
  refine o_call (args := [(.slice (some ⟨b1, 0, none⟩) 1 1)]) rfl Try.call25 (Calls.mono (c_of _ [la] hS2.view (rsl1 (size := 1) hvr1 rfl ⟨_, rfl, (RSl.menc hsub1 ha)⟩) (by have := (RSl.len (RSl.menc hsub1 ha)); simp; omega)) ?_)
  rintro _ w2 ⟨rfl, hg1⟩
  refine ⟨_, rfl, ?_⟩
  have hS3 := hS2.grow hg1
  refine o_move (v := (.int .i64 (0 : Int))) rfl ?_
  refine wpList_nil ?_
  refine then_n ?_
  refine wp_block ?_
  refine loop (fun m f z => ∃ (k : Nat) (g : Fr), m = 10000 - k ∧ f = (upd (upd (upd g 3 (.int .i64 ((Sp.cnt (Sp.cov [la].flatten) k : Nat) : Int))) 8 (.agg (brow 10000 (Sp.cov [la].flatten)).toArray)) 9 (.int .i64 ((k : Nat) : Int))) ∧ St ⟨w, σ, []⟩ z σ1 [] ∧ (k ≤ 10000)) (m0 := _) ⟨0, _, rfl, (upd_in rfl (upd_in rfl (upd_in rfl rfl))), hS3, Nat.zero_le _⟩ ?_
  rintro _ _ w3 ⟨k, g, rfl, rfl, hS4, hk⟩
  have hcl := Sp.cnt_le (Sp.cov [la].flatten) k
  refine seq_reg ?_
  refine o_lss (r := (decide (((k : Nat) : Int) < (10000 : Int)))) rfl rfl rfl ?_
  refine wpList_nil ?_
  refine then_n ?_
  refine wp_seq ?_
  refine if_d (((k : Nat) : Int) < (10000 : Int)) rfl (fun ht1 => ?_) (fun ht1 => ?_)
  · refine wp_skip ?_
    refine then_n ?_
    refine wp_seq ?_
    refine wp_block ?_
    refine seq_reg ?_
    refine o_index_arr (k := k) (v := (.bool (Sp.cov [la].flatten k))) rfl rfl (by omega) (by omega) Try.underlying42 Try.sizeOf4 Try.isAgg4 (by rw [List.getElem?_toArray]; exact brow_at (by omega)) ?_
    refine o_assign (v := (.bool (Sp.cov [la].flatten k))) rfl ?_
    refine wpList_nil ?_
    refine then_n ?_
    refine seq_reg ?_
    refine o_move (v := (.bool (Sp.cov [la].flatten k))) rfl ?_
    refine wpList_nil ?_
    refine then_n ?_
    refine if_b rfl (fun ht2 => ?_) (fun ht2 => ?_)
    · refine one_reg ?_
      refine o_move (v := (.int .i64 ((Sp.cnt (Sp.cov [la].flatten) k : Nat) : Int))) rfl ?_
      refine o_add (r := ((Sp.cnt (Sp.cov [la].flatten) k + 1 : Nat) : Int)) rfl rfl (nw (by omega) (by omega) (by omega)) ?_
      refine o_assign (v := (.int .i64 ((Sp.cnt (Sp.cov [la].flatten) k + 1 : Nat) : Int))) rfl ?_
      refine wpList_nil ?_
      refine blk_n ?_
      refine then_n ?_
      refine one_reg ?_
      refine o_add (r := ((k + 1 : Nat) : Int)) rfl rfl (nw (by omega) (by omega) (by omega)) ?_
      refine o_move (v := (.int .i64 ((k + 1 : Nat) : Int))) rfl ?_
      refine wpList_nil ?_
      refine then_n ?_
      have hc : Sp.cnt (Sp.cov [la].flatten) (k + 1) = Sp.cnt (Sp.cov [la].flatten) k + 1 := by rw [Sp.cnt, ht2]; rfl
      exact ⟨_, _, rfl, ⟨k + 1, _, rfl, (upd_in rfl (upd_in rfl (upd_in (congrArg (fun z : Nat => Value.int .i64 (z : Int)) hc.symm) rfl))), hS4, by omega⟩, by omega⟩
    · refine wp_skip ?_
      refine blk_n ?_
      refine then_n ?_
      refine one_reg ?_
      refine o_add (r := ((k + 1 : Nat) : Int)) rfl rfl (nw (by omega) (by omega) (by omega)) ?_
      refine o_move (v := (.int .i64 ((k + 1 : Nat) : Int))) rfl ?_
      refine wpList_nil ?_
      refine then_n ?_
      have hc : Sp.cnt (Sp.cov [la].flatten) (k + 1) = Sp.cnt (Sp.cov [la].flatten) k + 0 := by rw [Sp.cnt, ht2]; rfl
      exact ⟨_, _, rfl, ⟨k + 1, _, rfl, (upd_in rfl (upd_in rfl (upd_in (congrArg (fun z : Nat => Value.int .i64 (z : Int)) hc.symm) rfl))), hS4, by omega⟩, by omega⟩
  · refine wp_exit ?_
    refine then_e ?_
    refine then_e ?_
    refine blk_hit ?_
    refine then_n ?_
    refine seq_reg ?_
    refine o_move (v := (.int .i64 ((Sp.cnt (Sp.cov [la].flatten) k : Nat) : Int))) rfl ?_
    refine o_assign (v := (.int .i64 ((Sp.cnt (Sp.cov [la].flatten) k : Nat) : Int))) rfl ?_
    refine wpList_nil ?_
    refine then_n ?_
    refine wp_ret ?_
    refine ret1 rfl (show ev _ _ _ = (.int .i64 ((Sp.cnt (Sp.cov [la].flatten) k : Nat) : Int)) from rfl) ?_
    obtain rfl : k = 10000 := by omega
    exact ⟨by rw [Sp.cnt_congr (fun i _ => (Sp.cov_one la i).symm)], hS4.done.forget⟩


end Go.Proofs.Ytddgjdaobcbcaaa
