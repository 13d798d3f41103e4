/- What a call answers, and that it leaves the memory that was there as it was: flagstone/flagstonelaw14.TrafficSets. Conditions: those of each statement (that the arguments can be read). -/
import Derived.Test.YtddgjdaobcbcaaaRows
import Derived.Test.YtddgjdaobcbcaaaFlDraw
import Derived.KernelRfl
import Derived.Test.YtddgjdaobcbcaaaExp8
namespace Go.Proofs.Ytddgjdaobcbcaaa
open Go Go.RowKit Go.Fl

theorem law_Sets {σ : Hv} {w : World} (a b x y : Value) (n : Int) (la lb : List UInt8) (lx ly : List (Int × Int)) (hV : View σ w) (ha : RSl 1 RU8 σ a la) (hb : RSl 1 RU8 σ b lb) (hx : RSl 2 (REnc encSp) σ x lx) (hy : RSl 2 (REnc encSp) σ y ly) (hn : -9223372036854775808 ≤ n) (hn2 : n ≤ 9223372036854775807) :
    Calls Try.prog 4 #[a, b, x, y, (.int .i64 n)] w fun e w1 => e = .returned (.bool true) ∧ Grow [] σ w σ w1 := by
  refine enter Try.func4 rfl rfl rfl ?_
  have hS := St.start hV
  obtain ⟨xx, cx, ex⟩ := hx.shape
  subst ex
  obtain ⟨xy, cy, ey⟩ := hy.shape
  subst ey
  refine seq_reg ?_
  refine o_assign (v := (.bool false)) rfl ?_
  refine wpList_nil ?_
  refine then_n ?_
  refine wp_seq ?_
  refine seq_reg ?_
  refine o_call (args := []) rfl Try.call5 (Calls.mono (c_awake hS.view) ?_)
  rintro _ w1 ⟨rfl, hg1⟩
  refine ⟨_, rfl, ?_⟩
  have hS1 := hS.grow hg1
  refine o_not (r := false) rfl rfl ?_
  refine wpList_nil ?_
  refine then_n ?_
  refine if_f rfl ?_
  refine wp_skip ?_
  refine then_n ?_
  refine wp_seq ?_
  refine seq_reg ?_
  refine o_move (v := (.slice xx lx.length cx)) rfl ?_
  refine o_len_slice rfl Try.underlying24 ?_
  refine o_gtr (r := (decide ((30 : Int) < ((lx.length : Nat) : Int)))) rfl rfl rfl ?_
  by_cases hb1 : (30 : Int) < ((lx.length : Nat) : Int)
  · refine o_move (v := (.bool true)) (congrArg Value.bool (decide_eq_true hb1)) ?_
    refine o_off rfl rfl ?_
    refine o_off rfl rfl ?_
    refine o_off rfl rfl ?_
    refine o_pick_t (v := (.bool true)) rfl rfl ?_
    refine wpList_nil ?_
    refine then_n ?_
    refine if_t rfl ?_
    refine seq_reg ?_
    refine o_assign (v := (.bool true)) rfl ?_
    refine wpList_nil ?_
    refine then_n ?_
    refine wp_ret ?_
    refine then_r ?_
    refine ret1 rfl (show ev _ _ _ = (.bool true) from rfl) ?_
    exact ⟨rfl, hS1.done.forget⟩
  · refine o_move (v := (.bool false)) (congrArg Value.bool (decide_eq_false hb1)) ?_
    refine o_on rfl rfl ?_
    refine o_move (v := (.slice xy ly.length cy)) rfl ?_
    refine o_on rfl rfl ?_
    refine o_len_slice rfl Try.underlying24 ?_
    refine o_on rfl rfl ?_
    refine o_gtr (r := (decide ((30 : Int) < ((ly.length : Nat) : Int)))) rfl rfl rfl ?_
    refine o_pick_f (v := (.bool (decide ((30 : Int) < ((ly.length : Nat) : Int))))) rfl rfl ?_
    refine wpList_nil ?_
    refine then_n ?_
    refine if_d ((30 : Int) < ((ly.length : Nat) : Int)) rfl (fun ht1 => ?_) (fun ht1 => ?_)
    · refine seq_reg ?_
      refine o_assign (v := (.bool true)) rfl ?_
      refine wpList_nil ?_
      refine then_n ?_
      refine wp_ret ?_
      refine then_r ?_
      refine ret1 rfl (show ev _ _ _ = (.bool true) from rfl) ?_
      exact ⟨rfl, hS1.done.forget⟩
    · refine wp_skip ?_
      refine then_n ?_
      refine wp_seq ?_
      refine seq_reg ?_
      refine o_move (v := a) rfl ?_
      refine o_call (args := [a]) rfl Try.call6 (Calls.mono (c_lawspans _ la hS1.view ha) ?_)
      rintro _ w2 ⟨v1, l1, σ1, rfl, hg2, hrd1, hll1⟩
      refine ⟨_, rfl, ?_⟩
      have hS2 := hS1.grow hg2
      obtain ⟨xa1, ca1, he1⟩ := hrd1.shape
      subst he1
      refine o_move (v := b) rfl ?_
      refine o_call (args := [b]) rfl Try.call6 (Calls.mono (c_lawspans _ lb hS2.view (RSl.menc hg2.sub hb)) ?_)
      rintro _ w3 ⟨v2, l2, σ2, rfl, hg3, hrd2, hll2⟩
      refine ⟨_, rfl, ?_⟩
      have hS3 := hS2.grow hg3
      obtain ⟨xa2, ca2, he2⟩ := hrd2.shape
      subst he2
      refine o_build (v := (.agg #[(.slice xa1 (l1).length ca1), (.slice xa2 (l2).length ca2)])) (fun _ => by kernel_rfl) ?_
      refine o_move (v := (.slice xx lx.length cx)) rfl ?_
      refine o_move (v := (.slice xy ly.length cy)) rfl ?_
      refine o_build (v := (.agg #[(.slice xx lx.length cx), (.slice xy ly.length cy)])) (fun _ => by kernel_rfl) ?_
      refine o_move (v := a) rfl ?_
      refine o_call (args := [a]) rfl Try.call6 (Calls.mono (c_lawspans _ la hS3.view (RSl.menc (Sub.trans hg2.sub hg3.sub) ha)) ?_)
      rintro _ w4 ⟨v3, l3, σ3, rfl, hg4, hrd3, hll3⟩
      refine ⟨_, rfl, ?_⟩
      have hS4 := hS3.grow hg4
      obtain ⟨xa3, ca3, he3⟩ := hrd3.shape
      subst he3
      refine o_move (v := (.slice xx lx.length cx)) rfl ?_
      refine o_build (v := (.agg #[(.slice xa3 (l3).length ca3), (.slice xx lx.length cx)])) (fun _ => by kernel_rfl) ?_
      refine o_bslice (cs := [(.slice xa1 (l1).length ca1), (.slice xa2 (l2).length ca2), (.slice xx lx.length cx), (.slice xy ly.length cy), (.slice xa3 (l3).length ca3), (.slice xx lx.length cx)]) (e := 31) hS4 (fun _ => by kernel_rfl) ?_
      intro b1 w5 hS5
      refine o_len_slice rfl Try.underlying32 ?_
      refine o_move (v := (.int .i64 (0 : Int))) rfl ?_
      refine wpList_nil ?_
      refine then_n ?_
      refine wp_block ?_
      obtain ⟨σ4, hS6, hsub1, hfr1⟩ := hS5.freeze (i := 0) rfl rfl rfl
      have hvr1 := vrow_blk (hS5.get (i := 0) rfl) hfr1
      obtain ⟨ls, hls, hlen⟩ : ∃ ls : List (List (Int × Int) × List (Int × Int)), RSl 2 (RPair (RSl 2 (REnc encSp))) σ4 (.slice (some ⟨b1, 0, none⟩) 3 3) ls ∧ ls.length = 3 := ⟨[(l1, l2), (lx, ly), (l3, lx)], rsl3 (size := 2) (cs := [_, _]) (ds := [_, _]) (es := [_, _]) hvr1 rfl rfl rfl ⟨_, _, rfl, (RSl.menc (Sub.trans (Sub.trans hg3.sub hg4.sub) hsub1) hrd1), (RSl.menc (Sub.trans hg4.sub hsub1) hrd2)⟩ ⟨_, _, rfl, (RSl.menc (Sub.trans (Sub.trans (Sub.trans hg2.sub hg3.sub) hg4.sub) hsub1) hx), (RSl.menc (Sub.trans (Sub.trans (Sub.trans hg2.sub hg3.sub) hg4.sub) hsub1) hy)⟩ ⟨_, _, rfl, (RSl.menc hsub1 hrd3), (RSl.menc (Sub.trans (Sub.trans (Sub.trans hg2.sub hg3.sub) hg4.sub) hsub1) hx)⟩, rfl⟩
      obtain ⟨als, capls, hels, hq1, hq2, hel⟩ := hls
      obtain ⟨rfl, _, _⟩ := Value.slice.inj hels
      refine loop (fun m f z => ∃ (k : Nat) (g : Fr), m = 3 - k ∧ f = (upd (upd (upd (upd g 4 (.int .i64 n)) 38 (.slice (some ⟨b1, 0, none⟩) 3 3)) 39 (.int .i64 (3 : Int))) 40 (.int .i64 ((k : Nat) : Int))) ∧ St ⟨w, σ, []⟩ z σ4 [] ∧ (k ≤ 3)) (m0 := _) ⟨0, _, rfl, (upd_in rfl (upd_in rfl (upd_in rfl (upd_in rfl rfl)))), (hS6.sublist (ms' := []) (List.nil_sublist _)), Nat.zero_le _⟩ ?_
      rintro _ _ w6 ⟨k, g, rfl, rfl, hS7, hk⟩
      refine seq_reg ?_
      refine o_lss (r := (decide (((k : Nat) : Int) < (3 : Int)))) rfl rfl rfl ?_
      refine wpList_nil ?_
      refine then_n ?_
      refine wp_seq ?_
      refine if_d (((k : Nat) : Int) < (3 : Int)) rfl (fun ht2 => ?_) (fun ht2 => ?_)
      · refine wp_skip ?_
        refine then_n ?_
        refine wp_seq ?_
        refine wp_block ?_
        refine seq_reg ?_
        obtain ⟨x1, hx1⟩ := getq (l := ls) (k := k) (by omega)
        obtain ⟨ad1, cs1, ha1, hl1, hr1, hR1⟩ := hel k _ hx1
        obtain ⟨pv1, pw1, rfl, hpv1, hpw1⟩ := hR1
        obtain ⟨xa4, ca4, he4⟩ := hpv1.shape
        subst he4
        obtain ⟨xa5, ca5, he5⟩ := hpw1.shape
        subst he5
        refine o_iaddr_slice (k := k) (a' := (ad1.add (k * 2))) (congrArg (fun z => Value.slice z _ _) ha1) rfl (by omega) (by have := lt_of_getq hx1; omega) Try.underlying32 Try.sizeOf31 rfl ?_
        refine o_loadA (cs := [(.slice xa4 (x1.1).length ca4), (.slice xa5 (x1.2).length ca5)]) rfl Try.isAgg31 Try.sizeOf31 rfl (hr1.row hS7.view) ?_
        refine o_alloc (cs := [(.slice none 0 0), (.slice none 0 0)]) hS7 Try.zeroValue31 rfl ?_
        intro b2 w7 hS8
        refine o_store (T := 31) (vs := [(.slice xa4 (x1.1).length ca4), (.slice xa5 (x1.2).length ca5)]) (cs' := [(.slice xa4 (x1.1).length ca4), (.slice xa5 (x1.2).length ca5)]) (ms' := [blk b2 31 [(.slice xa4 (x1.1).length ca4), (.slice xa5 (x1.2).length ca5)]]) (i := 0) hS8 rfl rfl rfl Try.sizeOf31 rfl (ones rfl) rfl (Nat.le_of_ble_eq_true rfl) rfl rfl ?_
        intro w8 hS9
        refine wpList_nil ?_
        refine then_n ?_
        refine wp_seq ?_
        refine d_reg (fun z => St ⟨w, σ, []⟩ z σ4 [blk b2 31 [(.slice xa4 (x1.1).length ca4), (.slice xa5 (x1.2).length ca5)]]) (by kernel_rfl) rfl rfl ?_
        have hS10 := hS9.drew
        refine d_take (i := 0) (v := (.pointer (some ⟨b2, 0, none⟩))) (l' := #[true, false, false, false, false, false]) rfl (by kernel_rfl) (by kernel_rfl) (by kernel_rfl) rfl rfl (fun _ _ _ h => h) hS10 (fun w hJ K hK => ?_) ?_
        · refine o_iaddr_arr (k := 0) (a' := ⟨b2, 0, none⟩) rfl rfl (by omega) (by omega) Try.underlying31 Try.sizeOf24 (by simp [addr_lit]) ?_
          exact ⟨rfl, hK⟩
        refine d_take (i := 1) (v := (.slice xa4 (x1.1).length ca4)) (l' := #[true, true, false, false, false, false]) rfl (by kernel_rfl) (by kernel_rfl) (by kernel_rfl) rfl rfl (fun _ _ _ h => h) hS10 (fun w hJ K hK => ?_) ?_
        · refine o_load (v := (.slice xa4 (x1.1).length ca4)) rfl Try.isAgg24 (hJ.cell (i := 0) rfl rfl) ?_
          exact ⟨rfl, hK⟩
        refine d_take (i := 2) (v := (.pointer (some ⟨b2, 1, none⟩))) (l' := #[true, true, true, false, false, false]) rfl (by kernel_rfl) (by kernel_rfl) (by kernel_rfl) rfl rfl (fun _ _ _ h => h) hS10 (fun w hJ K hK => ?_) ?_
        · refine o_iaddr_arr (k := 1) (a' := ⟨b2, 1, none⟩) rfl rfl (by omega) (by omega) Try.underlying31 Try.sizeOf24 (by simp [addr_lit]) ?_
          exact ⟨rfl, hK⟩
        refine d_take (i := 3) (v := (.slice xa5 (x1.2).length ca5)) (l' := #[true, true, true, true, false, false]) rfl (by kernel_rfl) (by kernel_rfl) (by kernel_rfl) rfl rfl (fun _ _ _ h => h) hS10 (fun w hJ K hK => ?_) ?_
        · refine o_load (v := (.slice xa5 (x1.2).length ca5)) rfl Try.isAgg24 (hJ.cell (i := 0) rfl rfl) ?_
          exact ⟨rfl, hK⟩
        refine d_take (i := 4) (v := (.slice xa4 (x1.1).length ca4)) (l' := #[true, true, true, true, true, false]) rfl (by kernel_rfl) (by kernel_rfl) (by kernel_rfl) rfl rfl (fun _ _ _ h => h) hS10 (fun w hJ K hK => ?_) ?_
        · refine o_assign (v := (.slice xa4 (x1.1).length ca4)) rfl ?_
          exact ⟨rfl, hK⟩
        refine d_take (i := 5) (v := (.slice xa5 (x1.2).length ca5)) (l' := #[true, true, true, true, true, true]) rfl (by kernel_rfl) (by kernel_rfl) (by kernel_rfl) rfl rfl (fun _ _ _ h => h) hS10 (fun w hJ K hK => ?_) ?_
        · refine o_assign (v := (.slice xa5 (x1.2).length ca5)) rfl ?_
          exact ⟨rfl, hK⟩
        refine d_done (by kernel_rfl) ?_
        refine then_n ?_
        refine seq_reg ?_
        refine o_move (v := (.int .i64 n)) rfl ?_
        refine o_call (args := [(.int .i64 n), (.int .i64 (10000 : Int))]) rfl Try.call13 (Calls.mono (c_Mod n (10000 : Int) hS10.view (by omega) (by omega)) ?_)
        rintro _ w9 ⟨m1, rfl, hm1, hg5⟩
        refine ⟨_, rfl, ?_⟩
        have hS11 := hS10.grow hg5
        refine o_assign (v := (.int .i64 ((m1 : Nat) : Int))) rfl ?_
        refine wpList_nil ?_
        refine then_n ?_
        refine wp_seq ?_
        refine seq_reg ?_
        refine o_move (v := (.slice xa4 (x1.1).length ca4)) rfl ?_
        refine o_call (args := [(.slice xa4 (x1.1).length ca4)]) rfl Try.call12 (Calls.mono (c_Normal _ x1.1 hS11.view hpv1) ?_)
        rintro _ w10 ⟨v4, σ5, rfl, hg6, hrd4⟩
        refine ⟨_, rfl, ?_⟩
        have hS12 := hS11.grow hg6
        obtain ⟨xa6, ca6, he6⟩ := hrd4.shape
        subst he6
        refine o_move (v := (.slice xa4 (x1.1).length ca4)) rfl ?_
        refine o_call (args := [(.slice xa4 (x1.1).length ca4)]) rfl Try.call14 (Calls.mono (r_Normal _ x1.1 hS12.view (RSl.menc hg6.sub hpv1)) ?_)
        rintro _ w11 ⟨v5, σ6, rfl, hg7, hrd5⟩
        refine ⟨_, rfl, ?_⟩
        have hS13 := hS12.grow hg7
        obtain ⟨xa7, ca7, he7⟩ := hrd5.shape
        subst he7
        refine o_call (args := [(.slice xa6 ((Sp.runs (Sp.cov x1.1) 10000)).length ca6), (.slice xa7 ((Sp.runs (Sp.cov x1.1) 10000)).length ca7)]) rfl Try.call11 (Calls.mono (r_SameSpans _ _ (Sp.runs (Sp.cov x1.1) 10000) hS13.view (RSl.menc hg7.sub hrd4) hrd5) ?_)
        rintro _ w12 ⟨rfl, hg8⟩
        refine ⟨_, rfl, ?_⟩
        have hS14 := hS13.grow hg8
        refine o_not (r := false) rfl rfl ?_
        refine o_move (v := (.bool false)) rfl ?_
        refine o_on rfl rfl ?_
        refine o_move (v := (.slice xa4 (x1.1).length ca4)) rfl ?_
        refine o_on rfl rfl ?_
        refine o_move (v := (.slice xa5 (x1.2).length ca5)) rfl ?_
        refine o_on rfl rfl ?_
        refine o_call (args := [(.slice xa4 (x1.1).length ca4), (.slice xa5 (x1.2).length ca5)]) rfl Try.call7 (Calls.mono (c_Union _ _ x1.1 x1.2 hS14.view (RSl.menc (Sub.trans hg6.sub hg7.sub) hpv1) (RSl.menc (Sub.trans hg6.sub hg7.sub) hpw1)) ?_)
        rintro _ w13 ⟨v6, σ7, rfl, hg9, hrd6⟩
        refine ⟨_, rfl, ?_⟩
        have hS15 := hS14.grow hg9
        obtain ⟨xa8, ca8, he8⟩ := hrd6.shape
        subst he8
        refine o_on rfl rfl ?_
        refine o_move (v := (.slice xa4 (x1.1).length ca4)) rfl ?_
        refine o_on rfl rfl ?_
        refine o_move (v := (.slice xa5 (x1.2).length ca5)) rfl ?_
        refine o_on rfl rfl ?_
        refine o_call (args := [(.slice xa4 (x1.1).length ca4), (.slice xa5 (x1.2).length ca5)]) rfl Try.call15 (Calls.mono (r_Union _ _ x1.1 x1.2 hS15.view (RSl.menc (Sub.trans (Sub.trans hg6.sub hg7.sub) hg9.sub) hpv1) (RSl.menc (Sub.trans (Sub.trans hg6.sub hg7.sub) hg9.sub) hpw1)) ?_)
        rintro _ w14 ⟨v7, σ8, rfl, hg10, hrd7⟩
        refine ⟨_, rfl, ?_⟩
        have hS16 := hS15.grow hg10
        obtain ⟨xa9, ca9, he9⟩ := hrd7.shape
        subst he9
        refine o_on rfl rfl ?_
        refine o_call (args := [(.slice xa8 ((Sp.runs (fun i => Sp.cov x1.1 i || Sp.cov x1.2 i) 10000)).length ca8), (.slice xa9 ((Sp.runs (fun i => Sp.cov x1.1 i || Sp.cov x1.2 i) 10000)).length ca9)]) rfl Try.call11 (Calls.mono (r_SameSpans _ _ (Sp.runs (fun i => Sp.cov x1.1 i || Sp.cov x1.2 i) 10000) hS16.view (RSl.menc hg10.sub hrd6) hrd7) ?_)
        rintro _ w15 ⟨rfl, hg11⟩
        refine ⟨_, rfl, ?_⟩
        have hS17 := hS16.grow hg11
        refine o_on rfl rfl ?_
        refine o_not (r := false) rfl rfl ?_
        refine o_pick_f (v := (.bool false)) rfl rfl ?_
        refine o_move (v := (.bool false)) rfl ?_
        refine o_on rfl rfl ?_
        refine o_move (v := (.slice xa4 (x1.1).length ca4)) rfl ?_
        refine o_on rfl rfl ?_
        refine o_move (v := (.slice xa5 (x1.2).length ca5)) rfl ?_
        refine o_on rfl rfl ?_
        refine o_call (args := [(.slice xa4 (x1.1).length ca4), (.slice xa5 (x1.2).length ca5)]) rfl Try.call9 (Calls.mono (c_Minus _ _ x1.1 x1.2 hS17.view (RSl.menc (Sub.trans (Sub.trans (Sub.trans hg6.sub hg7.sub) hg9.sub) hg10.sub) hpv1) (RSl.menc (Sub.trans (Sub.trans (Sub.trans hg6.sub hg7.sub) hg9.sub) hg10.sub) hpw1)) ?_)
        rintro _ w16 ⟨v8, σ9, rfl, hg12, hrd8⟩
        refine ⟨_, rfl, ?_⟩
        have hS18 := hS17.grow hg12
        obtain ⟨xa10, ca10, he10⟩ := hrd8.shape
        subst he10
        refine o_on rfl rfl ?_
        refine o_move (v := (.slice xa4 (x1.1).length ca4)) rfl ?_
        refine o_on rfl rfl ?_
        refine o_move (v := (.slice xa5 (x1.2).length ca5)) rfl ?_
        refine o_on rfl rfl ?_
        refine o_call (args := [(.slice xa4 (x1.1).length ca4), (.slice xa5 (x1.2).length ca5)]) rfl Try.call16 (Calls.mono (r_Minus _ _ x1.1 x1.2 hS18.view (RSl.menc (Sub.trans (Sub.trans (Sub.trans (Sub.trans hg6.sub hg7.sub) hg9.sub) hg10.sub) hg12.sub) hpv1) (RSl.menc (Sub.trans (Sub.trans (Sub.trans (Sub.trans hg6.sub hg7.sub) hg9.sub) hg10.sub) hg12.sub) hpw1)) ?_)
        rintro _ w17 ⟨v9, σ10, rfl, hg13, hrd9⟩
        refine ⟨_, rfl, ?_⟩
        have hS19 := hS18.grow hg13
        obtain ⟨xa11, ca11, he11⟩ := hrd9.shape
        subst he11
        refine o_on rfl rfl ?_
        refine o_call (args := [(.slice xa10 ((Sp.runs (fun i => Sp.cov x1.1 i && !Sp.cov x1.2 i) 10000)).length ca10), (.slice xa11 ((Sp.runs (fun i => Sp.cov x1.1 i && !Sp.cov x1.2 i) 10000)).length ca11)]) rfl Try.call11 (Calls.mono (r_SameSpans _ _ (Sp.runs (fun i => Sp.cov x1.1 i && !Sp.cov x1.2 i) 10000) hS19.view (RSl.menc hg13.sub hrd8) hrd9) ?_)
        rintro _ w18 ⟨rfl, hg14⟩
        refine ⟨_, rfl, ?_⟩
        have hS20 := hS19.grow hg14
        refine o_on rfl rfl ?_
        refine o_not (r := false) rfl rfl ?_
        refine o_pick_f (v := (.bool false)) rfl rfl ?_
        refine o_move (v := (.bool false)) rfl ?_
        refine o_on rfl rfl ?_
        refine o_move (v := (.slice xa4 (x1.1).length ca4)) rfl ?_
        refine o_on rfl rfl ?_
        refine o_move (v := (.slice xa5 (x1.2).length ca5)) rfl ?_
        refine o_on rfl rfl ?_
        refine o_call (args := [(.slice xa4 (x1.1).length ca4), (.slice xa5 (x1.2).length ca5)]) rfl Try.call8 (Calls.mono (c_Common _ _ x1.1 x1.2 hS20.view (RSl.menc (Sub.trans (Sub.trans (Sub.trans (Sub.trans (Sub.trans hg6.sub hg7.sub) hg9.sub) hg10.sub) hg12.sub) hg13.sub) hpv1) (RSl.menc (Sub.trans (Sub.trans (Sub.trans (Sub.trans (Sub.trans hg6.sub hg7.sub) hg9.sub) hg10.sub) hg12.sub) hg13.sub) hpw1)) ?_)
        rintro _ w19 ⟨v10, σ11, rfl, hg15, hrd10⟩
        refine ⟨_, rfl, ?_⟩
        have hS21 := hS20.grow hg15
        obtain ⟨xa12, ca12, he12⟩ := hrd10.shape
        subst he12
        refine o_on rfl rfl ?_
        refine o_move (v := (.slice xa4 (x1.1).length ca4)) rfl ?_
        refine o_on rfl rfl ?_
        refine o_move (v := (.slice xa5 (x1.2).length ca5)) rfl ?_
        refine o_on rfl rfl ?_
        refine o_call (args := [(.slice xa4 (x1.1).length ca4), (.slice xa5 (x1.2).length ca5)]) rfl Try.call17 (Calls.mono (r_Common _ _ x1.1 x1.2 hS21.view (RSl.menc (Sub.trans (Sub.trans (Sub.trans (Sub.trans (Sub.trans (Sub.trans hg6.sub hg7.sub) hg9.sub) hg10.sub) hg12.sub) hg13.sub) hg15.sub) hpv1) (RSl.menc (Sub.trans (Sub.trans (Sub.trans (Sub.trans (Sub.trans (Sub.trans hg6.sub hg7.sub) hg9.sub) hg10.sub) hg12.sub) hg13.sub) hg15.sub) hpw1)) ?_)
        rintro _ w20 ⟨v11, σ12, rfl, hg16, hrd11⟩
        refine ⟨_, rfl, ?_⟩
        have hS22 := hS21.grow hg16
        obtain ⟨xa13, ca13, he13⟩ := hrd11.shape
        subst he13
        refine o_on rfl rfl ?_
        refine o_call (args := [(.slice xa12 ((Sp.runs (fun i => Sp.cov x1.1 i && Sp.cov x1.2 i) 10000)).length ca12), (.slice xa13 ((Sp.runs (fun i => Sp.cov x1.1 i && Sp.cov x1.2 i) 10000)).length ca13)]) rfl Try.call11 (Calls.mono (r_SameSpans _ _ (Sp.runs (fun i => Sp.cov x1.1 i && Sp.cov x1.2 i) 10000) hS22.view (RSl.menc hg16.sub hrd10) hrd11) ?_)
        rintro _ w21 ⟨rfl, hg17⟩
        refine ⟨_, rfl, ?_⟩
        have hS23 := hS22.grow hg17
        refine o_on rfl rfl ?_
        refine o_not (r := false) rfl rfl ?_
        refine o_pick_f (v := (.bool false)) rfl rfl ?_
        refine wpList_nil ?_
        refine then_n ?_
        refine if_f rfl ?_
        refine wp_skip ?_
        refine then_n ?_
        refine seq_reg ?_
        refine o_move (v := (.slice xa4 (x1.1).length ca4)) rfl ?_
        refine o_call (args := [(.slice xa4 (x1.1).length ca4)]) rfl Try.call10 (Calls.mono (c_Size _ x1.1 hS23.view (RSl.menc (Sub.trans (Sub.trans (Sub.trans (Sub.trans (Sub.trans (Sub.trans (Sub.trans hg6.sub hg7.sub) hg9.sub) hg10.sub) hg12.sub) hg13.sub) hg15.sub) hg16.sub) hpv1)) ?_)
        rintro _ w22 ⟨rfl, hg18⟩
        refine ⟨_, rfl, ?_⟩
        have hS24 := hS23.grow hg18
        have hcl1 := Sp.cnt_le (Sp.cov x1.1) 10000
        refine o_move (v := (.slice xa4 (x1.1).length ca4)) rfl ?_
        refine o_call (args := [(.slice xa4 (x1.1).length ca4)]) rfl Try.call18 (Calls.mono (r_Size _ x1.1 hS24.view (RSl.menc (Sub.trans (Sub.trans (Sub.trans (Sub.trans (Sub.trans (Sub.trans (Sub.trans hg6.sub hg7.sub) hg9.sub) hg10.sub) hg12.sub) hg13.sub) hg15.sub) hg16.sub) hpv1)) ?_)
        rintro _ w23 ⟨rfl, hg19⟩
        refine ⟨_, rfl, ?_⟩
        have hS25 := hS24.grow hg19
        have hcl2 := Sp.cnt_le (Sp.cov x1.1) 10000
        refine o_neq (r := (!decide (((Sp.cnt (Sp.cov x1.1) 10000 : Nat) : Int) = ((Sp.cnt (Sp.cov x1.1) 10000 : Nat) : Int)))) rfl rfl rfl ?_
        by_cases hb2 : ((Sp.cnt (Sp.cov x1.1) 10000 : Nat) : Int) = ((Sp.cnt (Sp.cov x1.1) 10000 : Nat) : Int)
        · refine o_move (v := (.bool false)) (congrArg Value.bool (congrArg Bool.not (decide_eq_true hb2))) ?_
          refine o_on rfl rfl ?_
          refine o_move (v := (.slice xa4 (x1.1).length ca4)) rfl ?_
          refine o_on rfl rfl ?_
          refine o_move (v := (.int .i64 n)) rfl ?_
          refine o_on rfl rfl ?_
          refine o_call (args := [(.slice xa4 (x1.1).length ca4), (.int .i64 n)]) rfl Try.call19 (Calls.mono (c_First _ x1.1 n hS25.view (RSl.menc (Sub.trans (Sub.trans (Sub.trans (Sub.trans (Sub.trans (Sub.trans (Sub.trans hg6.sub hg7.sub) hg9.sub) hg10.sub) hg12.sub) hg13.sub) hg15.sub) hg16.sub) hpv1) (by omega) (by omega)) ?_)
          rintro _ w24 ⟨v12, σ13, rfl, hg20, hrd12⟩
          refine ⟨_, rfl, ?_⟩
          have hS26 := hS25.grow hg20
          obtain ⟨xa14, ca14, he14⟩ := hrd12.shape
          subst he14
          refine o_on rfl rfl ?_
          refine o_move (v := (.slice xa4 (x1.1).length ca4)) rfl ?_
          refine o_on rfl rfl ?_
          refine o_move (v := (.int .i64 n)) rfl ?_
          refine o_on rfl rfl ?_
          refine o_call (args := [(.slice xa4 (x1.1).length ca4), (.int .i64 n)]) rfl Try.call20 (Calls.mono (r_First _ x1.1 n hS26.view (RSl.menc (Sub.trans (Sub.trans (Sub.trans (Sub.trans (Sub.trans (Sub.trans (Sub.trans (Sub.trans hg6.sub hg7.sub) hg9.sub) hg10.sub) hg12.sub) hg13.sub) hg15.sub) hg16.sub) hg20.sub) hpv1) (by omega) (by omega)) ?_)
          rintro _ w25 ⟨v13, σ14, rfl, hg21, hrd13⟩
          refine ⟨_, rfl, ?_⟩
          have hS27 := hS26.grow hg21
          obtain ⟨xa15, ca15, he15⟩ := hrd13.shape
          subst he15
          refine o_on rfl rfl ?_
          refine o_call (args := [(.slice xa14 ((Sp.runs (Sp.firstP (Sp.cov x1.1) n) 10000)).length ca14), (.slice xa15 ((Sp.runs (Sp.firstP (Sp.cov x1.1) n) 10000)).length ca15)]) rfl Try.call11 (Calls.mono (r_SameSpans _ _ (Sp.runs (Sp.firstP (Sp.cov x1.1) n) 10000) hS27.view (RSl.menc hg21.sub hrd12) hrd13) ?_)
          rintro _ w26 ⟨rfl, hg22⟩
          refine ⟨_, rfl, ?_⟩
          have hS28 := hS27.grow hg22
          refine o_on rfl rfl ?_
          refine o_not (r := false) rfl rfl ?_
          refine o_pick_f (v := (.bool false)) rfl rfl ?_
          refine o_move (v := (.bool false)) rfl ?_
          refine o_on rfl rfl ?_
          refine o_move (v := (.slice xa4 (x1.1).length ca4)) rfl ?_
          refine o_on rfl rfl ?_
          refine o_move (v := (.int .i64 ((m1 : Nat) : Int))) rfl ?_
          refine o_on rfl rfl ?_
          refine o_call (args := [(.slice xa4 (x1.1).length ca4), (.int .i64 ((m1 : Nat) : Int))]) rfl Try.call19 (Calls.mono (c_First _ x1.1 ((m1 : Nat) : Int) hS28.view (RSl.menc (Sub.trans (Sub.trans (Sub.trans (Sub.trans (Sub.trans (Sub.trans (Sub.trans (Sub.trans (Sub.trans hg6.sub hg7.sub) hg9.sub) hg10.sub) hg12.sub) hg13.sub) hg15.sub) hg16.sub) hg20.sub) hg21.sub) hpv1) (by omega) (by omega)) ?_)
          rintro _ w27 ⟨v14, σ15, rfl, hg23, hrd14⟩
          refine ⟨_, rfl, ?_⟩
          have hS29 := hS28.grow hg23
          obtain ⟨xa16, ca16, he16⟩ := hrd14.shape
          subst he16
          refine o_on rfl rfl ?_
          refine o_move (v := (.slice xa4 (x1.1).length ca4)) rfl ?_
          refine o_on rfl rfl ?_
          refine o_move (v := (.int .i64 ((m1 : Nat) : Int))) rfl ?_
          refine o_on rfl rfl ?_
          refine o_call (args := [(.slice xa4 (x1.1).length ca4), (.int .i64 ((m1 : Nat) : Int))]) rfl Try.call20 (Calls.mono (r_First _ x1.1 ((m1 : Nat) : Int) hS29.view (RSl.menc (Sub.trans (Sub.trans (Sub.trans (Sub.trans (Sub.trans (Sub.trans (Sub.trans (Sub.trans (Sub.trans (Sub.trans hg6.sub hg7.sub) hg9.sub) hg10.sub) hg12.sub) hg13.sub) hg15.sub) hg16.sub) hg20.sub) hg21.sub) hg23.sub) hpv1) (by omega) (by omega)) ?_)
          rintro _ w28 ⟨v15, σ16, rfl, hg24, hrd15⟩
          refine ⟨_, rfl, ?_⟩
          have hS30 := hS29.grow hg24
          obtain ⟨xa17, ca17, he17⟩ := hrd15.shape
          subst he17
          refine o_on rfl rfl ?_
          refine o_call (args := [(.slice xa16 ((Sp.runs (Sp.firstP (Sp.cov x1.1) ((m1 : Nat) : Int)) 10000)).length ca16), (.slice xa17 ((Sp.runs (Sp.firstP (Sp.cov x1.1) ((m1 : Nat) : Int)) 10000)).length ca17)]) rfl Try.call11 (Calls.mono (r_SameSpans _ _ (Sp.runs (Sp.firstP (Sp.cov x1.1) ((m1 : Nat) : Int)) 10000) hS30.view (RSl.menc hg24.sub hrd14) hrd15) ?_)
          rintro _ w29 ⟨rfl, hg25⟩
          refine ⟨_, rfl, ?_⟩
          have hS31 := hS30.grow hg25
          refine o_on rfl rfl ?_
          refine o_not (r := false) rfl rfl ?_
          refine o_pick_f (v := (.bool false)) rfl rfl ?_
          refine wpList_nil ?_
          refine then_n ?_
          refine if_f rfl ?_
          refine wp_skip ?_
          refine blk_n ?_
          refine then_n ?_
          refine one_reg ?_
          refine o_add (r := ((k + 1 : Nat) : Int)) rfl rfl (nw (by omega) (by omega) (by omega)) ?_
          refine o_move (v := (.int .i64 ((k + 1 : Nat) : Int))) rfl ?_
          refine wpList_nil ?_
          refine then_n ?_
          exact ⟨_, _, rfl, ⟨k + 1, _, rfl, (upd_in rfl (upd_in rfl (upd_in rfl (upd_in rfl rfl)))), ((hS31.sublist (ms' := []) (List.nil_sublist _)).less hS7 (Sub.trans (Sub.trans (Sub.trans (Sub.trans (Sub.trans (Sub.trans (Sub.trans (Sub.trans (Sub.trans (Sub.trans (Sub.trans hg6.sub hg7.sub) hg9.sub) hg10.sub) hg12.sub) hg13.sub) hg15.sub) hg16.sub) hg20.sub) hg21.sub) hg23.sub) hg24.sub)), by omega⟩, by omega⟩
        · exact absurd (by omega) hb2
      · refine wp_exit ?_
        refine then_e ?_
        refine then_e ?_
        refine blk_hit ?_
        refine then_n ?_
        refine seq_reg ?_
        refine o_assign (v := (.bool true)) rfl ?_
        refine wpList_nil ?_
        refine then_n ?_
        refine wp_ret ?_
        refine ret1 rfl (show ev _ _ _ = (.bool true) from rfl) ?_
        exact ⟨rfl, hS7.done.forget⟩


end Go.Proofs.Ytddgjdaobcbcaaa
