/- What a call answers, and that it leaves the memory that was there as it was: (*flagstone/flagstonedraw.Codes).Left, (*flagstone/flagstonedraw.Codes).Next, (*flagstone/flagstonedraw.Codes).Wide, flagstone/flagstonedraw.New, flagstone/flagstonedraw.Mod, flagstone/flagstonelaw14.spans. Conditions: those of each statement (that the arguments can be read). -/
import Derived.Test.YtddgjdaobcbcaaaRows
import Derived.Test.YtddgjdaobcbcaaaFlDraw
import Derived.KernelRfl
namespace Go.Proofs.Ytddgjdaobcbcaaa
open Go Go.RowKit Go.Fl

theorem c_Left {σ σ0 : Hv} {w : World} (b len k : Nat) (hV : View σ w) (hs : Sub σ0 σ) (ho : (cod 50 σ0 b len k).ok w) (hσ : σ b = none) :
    Calls Try.prog 22 #[(.pointer (some ⟨b, 0, none⟩))] w fun e w1 => e = .returned (.bool (decide (k < len))) ∧ Grow [b] σ w σ w1 ∧ w1.heap[b]? = w.heap[b]? := by
  refine enter Try.func22 rfl rfl rfl ?_
  have _hs := hs
  obtain ⟨v, l, hl, hv, hk, hb⟩ := ho
  obtain ⟨a, cap, rfl, h1, h2, hel⟩ := hv
  have hS := St.start1 (o := blk b 50 [.slice a l.length cap, .int .i64 (k : Nat)]) (b := b) hV hb rfl hσ
  refine seq_reg ?_
  refine o_assign (v := (.bool false)) rfl ?_
  refine wpList_nil ?_
  refine then_n ?_
  refine wp_seq ?_
  refine d_reg (fun z => St ⟨w, σ, [b]⟩ z σ [blk b 50 [(.slice a l.length cap), (.int .i64 ((k : Nat) : Int))]]) (by kernel_rfl) rfl rfl ?_
  have hS1 := hS.drew
  refine d_take (i := 0) (v := (.pointer (some ⟨b, 0, none⟩))) (l' := #[true, false, false, false, false, false, false, false, false, false, false]) rfl (by kernel_rfl) (by kernel_rfl) (by kernel_rfl) rfl rfl (fun _ _ _ h => h) hS1 (fun w hJ K hK => ?_) ?_
  · refine o_move (v := (.pointer (some ⟨b, 0, none⟩))) rfl ?_
    exact ⟨rfl, hK⟩
  refine d_take (i := 1) (v := (.pointer (some ⟨b, 0, none⟩))) (l' := #[true, true, false, false, false, false, false, false, false, false, false]) rfl (by kernel_rfl) (by kernel_rfl) (by kernel_rfl) rfl rfl (fun _ _ _ h => h) hS1 (fun w hJ K hK => ?_) ?_
  · refine o_nil rfl ?_
    exact ⟨rfl, hK⟩
  refine d_take (i := 2) (v := (.pointer (some ⟨b, 1, none⟩))) (l' := #[true, true, true, false, false, false, false, false, false, false, false]) rfl (by kernel_rfl) (by kernel_rfl) (by kernel_rfl) rfl rfl (fun _ _ _ h => h) hS1 (fun w hJ K hK => ?_) ?_
  · refine o_faddr (a' := ⟨b, 1, none⟩) rfl Try.underlying50 rfl Try.sizeOf3 rfl ?_
    exact ⟨rfl, hK⟩
  refine d_take (i := 3) (v := (.int .i64 ((k : Nat) : Int))) (l' := #[true, true, true, true, false, false, false, false, false, false, false]) rfl (by kernel_rfl) (by kernel_rfl) (by kernel_rfl) rfl rfl (fun _ _ _ h => h) hS1 (fun w hJ K hK => ?_) ?_
  · refine o_load (v := (.int .i64 ((k : Nat) : Int))) rfl Try.isAgg3 (hJ.cell (i := 0) rfl rfl) ?_
    exact ⟨rfl, hK⟩
  refine d_take (i := 4) (v := (.pointer (some ⟨b, 0, none⟩))) (l' := #[true, true, true, true, true, false, false, false, false, false, false]) rfl (by kernel_rfl) (by kernel_rfl) (by kernel_rfl) rfl rfl (fun _ _ _ h => h) hS1 (fun w hJ K hK => ?_) ?_
  · refine o_move (v := (.pointer (some ⟨b, 0, none⟩))) rfl ?_
    exact ⟨rfl, hK⟩
  refine d_take (i := 5) (v := (.pointer (some ⟨b, 0, none⟩))) (l' := #[true, true, true, true, true, true, false, false, false, false, false]) rfl (by kernel_rfl) (by kernel_rfl) (by kernel_rfl) rfl rfl (fun _ _ _ h => h) hS1 (fun w hJ K hK => ?_) ?_
  · refine o_nil rfl ?_
    exact ⟨rfl, hK⟩
  refine d_take (i := 6) (v := (.pointer (some ⟨b, 0, none⟩))) (l' := #[true, true, true, true, true, true, true, false, false, false, false]) rfl (by kernel_rfl) (by kernel_rfl) (by kernel_rfl) rfl rfl (fun _ _ _ h => h) hS1 (fun w hJ K hK => ?_) ?_
  · refine o_faddr (a' := ⟨b, 0, none⟩) rfl Try.underlying50 rfl Try.sizeOf22 rfl ?_
    exact ⟨rfl, hK⟩
  refine d_take (i := 7) (v := (.slice a l.length cap)) (l' := #[true, true, true, true, true, true, true, true, false, false, false]) rfl (by kernel_rfl) (by kernel_rfl) (by kernel_rfl) rfl rfl (fun _ _ _ h => h) hS1 (fun w hJ K hK => ?_) ?_
  · refine o_load (v := (.slice a l.length cap)) rfl Try.isAgg22 (hJ.cell (i := 0) rfl rfl) ?_
    exact ⟨rfl, hK⟩
  refine d_take (i := 8) (v := (.int .i64 ((l.length : Nat) : Int))) (l' := #[true, true, true, true, true, true, true, true, true, false, false]) rfl (by kernel_rfl) (by kernel_rfl) (by kernel_rfl) rfl rfl (fun _ _ _ h => h) hS1 (fun w hJ K hK => ?_) ?_
  · refine o_len_slice rfl Try.underlying22 ?_
    exact ⟨rfl, hK⟩
  refine d_take (i := 9) (v := (.bool (decide (((k : Nat) : Int) < ((l.length : Nat) : Int))))) (l' := #[true, true, true, true, true, true, true, true, true, true, false]) rfl (by kernel_rfl) (by kernel_rfl) (by kernel_rfl) rfl rfl (fun _ _ _ h => h) hS1 (fun w hJ K hK => ?_) ?_
  · refine o_lss (r := (decide (((k : Nat) : Int) < ((l.length : Nat) : Int)))) rfl rfl rfl ?_
    exact ⟨rfl, hK⟩
  refine d_take (i := 10) (v := (.bool (decide (((k : Nat) : Int) < ((l.length : Nat) : Int))))) (l' := #[true, true, true, true, true, true, true, true, true, true, true]) rfl (by kernel_rfl) (by kernel_rfl) (by kernel_rfl) rfl rfl (fun _ _ _ h => h) hS1 (fun w hJ K hK => ?_) ?_
  · refine o_assign (v := (.bool (decide (((k : Nat) : Int) < ((l.length : Nat) : Int))))) rfl ?_
    exact ⟨rfl, hK⟩
  refine d_done (by kernel_rfl) ?_
  refine then_n ?_
  refine wp_ret ?_
  refine ret1 rfl (show ev _ _ _ = (.bool (decide (((k : Nat) : Int) < ((l.length : Nat) : Int)))) from rfl) ?_
  exact ⟨by simp [hl], hS1.done, (hS1.get (i := 0) rfl).trans hb.symm⟩

theorem c_Next {σ σ0 : Hv} {w : World} (b len k : Nat) (n : Int) (hV : View σ w) (hs : Sub σ0 σ) (ho : (cod 50 σ0 b len k).ok w) (hσ : σ b = none) (hn : 1 ≤ n) :
    Calls Try.prog 24 #[(.pointer (some ⟨b, 0, none⟩)), (.int .i64 n)] w fun e w1 => ∃ r k1 : Nat, e = .returned (.int .i64 ((r : Nat) : Int)) ∧ ((r : Nat) : Int) < n ∧ k ≤ k1 ∧ (k < len → k < k1) ∧ k1 ≤ len ∧ Grow [b] σ w σ w1 ∧ (cod 50 σ0 b len k1).ok w1 := by
  refine enter Try.func24 rfl rfl rfl ?_
  have _hs := hs
  obtain ⟨v, l, hl, hv, hk, hb⟩ := ho
  obtain ⟨a, cap, rfl, h1, h2, hel⟩ := hv
  have hS := St.start1 (o := blk b 50 [.slice a l.length cap, .int .i64 (k : Nat)]) (b := b) hV hb rfl hσ
  refine seq_reg ?_
  refine o_assign (v := (.int .i64 (0 : Int))) rfl ?_
  refine wpList_nil ?_
  refine then_n ?_
  refine wp_seq ?_
  refine seq_reg ?_
  refine o_move (v := (.pointer (some ⟨b, 0, none⟩))) rfl ?_
  refine o_call (args := [(.pointer (some ⟨b, 0, none⟩))]) rfl Try.call22 (Calls.mono (c_Left b l.length k hS.view hs ⟨_, l, rfl, ⟨a, cap, rfl, h1, h2, hel⟩, by omega, hS.get (i := 0) rfl⟩ (hS.off _ (List.mem_of_getElem? (i := 0) rfl) _ rfl)) ?_)
  rintro _ w1 ⟨rfl, hg1, hb1⟩
  refine ⟨_, rfl, ?_⟩
  have hS1 := hS.growM hg1 (i := 0) (o' := blk b 50 [(.slice a l.length cap), (.int .i64 ((k : Nat) : Int))]) rfl rfl rfl (HObj.stay _ _ _ (by rintro k ⟨⟩; exact hb1) (hS.get (i := 0) rfl)) (ms' := [blk b 50 [(.slice a l.length cap), (.int .i64 ((k : Nat) : Int))]]) rfl
  refine o_not (r := (!decide (k < l.length))) rfl rfl ?_
  refine wpList_nil ?_
  refine then_n ?_
  refine if_nd (k < l.length) rfl (fun ht1 => ?_) (fun ht1 => ?_)
  · refine seq_reg ?_
    refine o_assign (v := (.int .i64 (0 : Int))) rfl ?_
    refine wpList_nil ?_
    refine then_n ?_
    refine wp_ret ?_
    refine then_r ?_
    refine ret1 rfl (show ev _ _ _ = (.int .i64 (0 : Int)) from rfl) ?_
    exact ⟨0, k, rfl, by omega, by omega, by omega, by omega, hS1.done, _, l, hl, ⟨a, cap, rfl, h1, h2, hel⟩, by omega, hS1.get (i := 0) rfl⟩
  · refine wp_skip ?_
    refine then_n ?_
    refine seq_reg ?_
    refine o_move (v := (.pointer (some ⟨b, 0, none⟩))) rfl ?_
    refine o_nil rfl ?_
    refine o_faddr (a' := ⟨b, 1, none⟩) rfl Try.underlying50 rfl Try.sizeOf3 rfl ?_
    refine o_load (v := (.int .i64 ((k : Nat) : Int))) rfl Try.isAgg3 (hS1.cell (i := 0) rfl rfl) ?_
    refine o_add (r := ((k + 1 : Nat) : Int)) rfl rfl (nw (by omega) (by omega) (by omega)) ?_
    refine o_nil rfl ?_
    refine o_faddr (a' := ⟨b, 1, none⟩) rfl Try.underlying50 rfl Try.sizeOf3 rfl ?_
    refine o_store (T := 50) (vs := [(.int .i64 ((k + 1 : Nat) : Int))]) (cs' := [(.slice a l.length cap), (.int .i64 ((k + 1 : Nat) : Int))]) (ms' := [blk b 50 [(.slice a l.length cap), (.int .i64 ((k + 1 : Nat) : Int))]]) (i := 0) hS1 rfl rfl rfl Try.sizeOf3 rfl (ones rfl) rfl (Nat.le_of_ble_eq_true rfl) rfl rfl ?_
    intro w2 hS2
    refine wpList_nil ?_
    refine then_n ?_
    refine wp_seq ?_
    refine d_reg (fun z => St ⟨w, σ, [b]⟩ z σ [blk b 50 [(.slice a l.length cap), (.int .i64 ((k + 1 : Nat) : Int))]]) (by kernel_rfl) rfl rfl ?_
    have hS3 := hS2.drew
    refine d_take (i := 0) (v := (.pointer (some ⟨b, 0, none⟩))) (l' := #[true, false, false, false, false, false, false, false, false, false, false, false, false, false, false]) rfl (by kernel_rfl) (by kernel_rfl) (by kernel_rfl) rfl rfl (fun _ _ _ h => h) hS3 (fun w hJ K hK => ?_) ?_
    · refine o_move (v := (.pointer (some ⟨b, 0, none⟩))) rfl ?_
      exact ⟨rfl, hK⟩
    refine d_take (i := 1) (v := (.pointer (some ⟨b, 0, none⟩))) (l' := #[true, true, false, false, false, false, false, false, false, false, false, false, false, false, false]) rfl (by kernel_rfl) (by kernel_rfl) (by kernel_rfl) rfl rfl (fun _ _ _ h => h) hS3 (fun w hJ K hK => ?_) ?_
    · refine o_nil rfl ?_
      exact ⟨rfl, hK⟩
    refine d_take (i := 2) (v := (.pointer (some ⟨b, 0, none⟩))) (l' := #[true, true, true, false, false, false, false, false, false, false, false, false, false, false, false]) rfl (by kernel_rfl) (by kernel_rfl) (by kernel_rfl) rfl rfl (fun _ _ _ h => h) hS3 (fun w hJ K hK => ?_) ?_
    · refine o_faddr (a' := ⟨b, 0, none⟩) rfl Try.underlying50 rfl Try.sizeOf22 rfl ?_
      exact ⟨rfl, hK⟩
    refine d_take (i := 3) (v := (.slice a l.length cap)) (l' := #[true, true, true, true, false, false, false, false, false, false, false, false, false, false, false]) rfl (by kernel_rfl) (by kernel_rfl) (by kernel_rfl) rfl rfl (fun _ _ _ h => h) hS3 (fun w hJ K hK => ?_) ?_
    · refine o_load (v := (.slice a l.length cap)) rfl Try.isAgg22 (hJ.cell (i := 0) rfl rfl) ?_
      exact ⟨rfl, hK⟩
    refine d_take (i := 4) (v := (.pointer (some ⟨b, 0, none⟩))) (l' := #[true, true, true, true, true, false, false, false, false, false, false, false, false, false, false]) rfl (by kernel_rfl) (by kernel_rfl) (by kernel_rfl) rfl rfl (fun _ _ _ h => h) hS3 (fun w hJ K hK => ?_) ?_
    · refine o_move (v := (.pointer (some ⟨b, 0, none⟩))) rfl ?_
      exact ⟨rfl, hK⟩
    refine d_take (i := 5) (v := (.pointer (some ⟨b, 0, none⟩))) (l' := #[true, true, true, true, true, true, false, false, false, false, false, false, false, false, false]) rfl (by kernel_rfl) (by kernel_rfl) (by kernel_rfl) rfl rfl (fun _ _ _ h => h) hS3 (fun w hJ K hK => ?_) ?_
    · refine o_nil rfl ?_
      exact ⟨rfl, hK⟩
    refine d_take (i := 6) (v := (.pointer (some ⟨b, 1, none⟩))) (l' := #[true, true, true, true, true, true, true, false, false, false, false, false, false, false, false]) rfl (by kernel_rfl) (by kernel_rfl) (by kernel_rfl) rfl rfl (fun _ _ _ h => h) hS3 (fun w hJ K hK => ?_) ?_
    · refine o_faddr (a' := ⟨b, 1, none⟩) rfl Try.underlying50 rfl Try.sizeOf3 rfl ?_
      exact ⟨rfl, hK⟩
    refine d_take (i := 7) (v := (.int .i64 ((k + 1 : Nat) : Int))) (l' := #[true, true, true, true, true, true, true, true, false, false, false, false, false, false, false]) rfl (by kernel_rfl) (by kernel_rfl) (by kernel_rfl) rfl rfl (fun _ _ _ h => h) hS3 (fun w hJ K hK => ?_) ?_
    · refine o_load (v := (.int .i64 ((k + 1 : Nat) : Int))) rfl Try.isAgg3 (hJ.cell (i := 0) rfl rfl) ?_
      exact ⟨rfl, hK⟩
    refine d_take (i := 8) (v := (.int .i64 (((k + 1 : Nat) : Int) - (1 : Int)))) (l' := #[true, true, true, true, true, true, true, true, true, false, false, false, false, false, false]) rfl (by kernel_rfl) (by kernel_rfl) (by kernel_rfl) rfl rfl (fun _ _ _ h => h) hS3 (fun w hJ K hK => ?_) ?_
    · refine o_sub (r := (((k + 1 : Nat) : Int) - (1 : Int))) rfl rfl (nw (by omega) (by omega) (by omega)) ?_
      exact ⟨rfl, hK⟩
    obtain ⟨x1, hx1⟩ := getq (l := l) (k := (k + 1 - 1)) (by omega)
    obtain ⟨ad1, cs1, ha1, hl1, hr1, hR1⟩ := hel ((k + 1 - 1)) _ hx1
    cases hR1
    have hlt1 := x1.toNat_lt
    refine d_take (i := 9) (v := (.pointer (some (ad1.add (((k + 1 - 1)) * 1))))) (l' := #[true, true, true, true, true, true, true, true, true, true, false, false, false, false, false]) rfl (by kernel_rfl) (by kernel_rfl) (by kernel_rfl) rfl rfl (fun _ _ _ h => h) hS3 (fun w hJ K hK => ?_) ?_
    · refine o_iaddr_slice (k := (k + 1 - 1)) (a' := (ad1.add (((k + 1 - 1)) * 1))) (congrArg (fun z => Value.slice z _ _) ha1) rfl (by omega) (lt_of_getq hx1) Try.underlying22 Try.sizeOf5 rfl ?_
      exact ⟨rfl, hK⟩
    refine d_take (i := 10) (v := (.int .u8 ((x1.toNat : Nat) : Int))) (l' := #[true, true, true, true, true, true, true, true, true, true, true, false, false, false, false]) rfl (by kernel_rfl) (by kernel_rfl) (by kernel_rfl) rfl rfl (fun _ _ _ h => h) hS3 (fun w hJ K hK => ?_) ?_
    · refine o_load (v := (.int .u8 ((x1.toNat : Nat) : Int))) rfl Try.isAgg5 (hr1.cell (View.of hs hJ.view) 0 rfl rfl) ?_
      exact ⟨rfl, hK⟩
    refine d_take (i := 11) (v := (.int .i64 ((x1.toNat : Nat) : Int))) (l' := #[true, true, true, true, true, true, true, true, true, true, true, true, false, false, false]) rfl (by kernel_rfl) (by kernel_rfl) (by kernel_rfl) rfl rfl (fun _ _ _ h => h) hS3 (fun w hJ K hK => ?_) ?_
    · refine o_conv (r := ((x1.toNat : Nat) : Int)) rfl Try.underlying5 Try.underlying3 (by simp [IntKind.wrap_i64]; omega) ?_
      exact ⟨rfl, hK⟩
    refine d_take (i := 12) (v := (.int .i64 n)) (l' := #[true, true, true, true, true, true, true, true, true, true, true, true, true, false, false]) rfl (by kernel_rfl) (by kernel_rfl) (by kernel_rfl) rfl rfl (fun _ _ _ h => h) hS3 (fun w hJ K hK => ?_) ?_
    · refine o_move (v := (.int .i64 n)) rfl ?_
      exact ⟨rfl, hK⟩
    obtain ⟨r1, hr2, hr3⟩ := tmod_nat x1.toNat (m := n) (by omega)
    refine d_take (i := 13) (v := (.int .i64 ((r1 : Nat) : Int))) (l' := #[true, true, true, true, true, true, true, true, true, true, true, true, true, true, false]) rfl (by kernel_rfl) (by kernel_rfl) (by kernel_rfl) rfl rfl (fun _ _ _ h => h) hS3 (fun w hJ K hK => ?_) ?_
    · refine o_rem (r := ((r1 : Nat) : Int)) rfl rfl (by omega) hr2 ?_
      exact ⟨rfl, hK⟩
    refine d_take (i := 14) (v := (.int .i64 ((r1 : Nat) : Int))) (l' := #[true, true, true, true, true, true, true, true, true, true, true, true, true, true, true]) rfl (by kernel_rfl) (by kernel_rfl) (by kernel_rfl) rfl rfl (fun _ _ _ h => h) hS3 (fun w hJ K hK => ?_) ?_
    · refine o_assign (v := (.int .i64 ((r1 : Nat) : Int))) rfl ?_
      exact ⟨rfl, hK⟩
    refine d_done (by kernel_rfl) ?_
    refine then_n ?_
    refine wp_ret ?_
    refine ret1 rfl (show ev _ _ _ = (.int .i64 ((r1 : Nat) : Int)) from rfl) ?_
    exact ⟨r1, k + 1, rfl, by omega, by omega, by omega, by omega, hS3.done, _, l, hl, ⟨a, cap, rfl, h1, h2, hel⟩, by omega, hS3.get (i := 0) rfl⟩

theorem c_Wide {σ σ0 : Hv} {w : World} (b len k : Nat) (n : Int) (hV : View σ w) (hs : Sub σ0 σ) (ho : (cod 50 σ0 b len k).ok w) (hσ : σ b = none) (hn : 1 ≤ n) :
    Calls Try.prog 23 #[(.pointer (some ⟨b, 0, none⟩)), (.int .i64 n)] w fun e w1 => ∃ r k1 : Nat, e = .returned (.int .i64 ((r : Nat) : Int)) ∧ ((r : Nat) : Int) < n ∧ k ≤ k1 ∧ (k < len → k < k1) ∧ k1 ≤ len ∧ Grow [b] σ w σ w1 ∧ (cod 50 σ0 b len k1).ok w1 := by
  refine enter Try.func23 rfl rfl rfl ?_
  have _hs := hs
  have hS := St.start1 (o := cod 50 σ0 b len k) (b := b) hV ho rfl hσ
  refine seq_reg ?_
  refine o_assign (v := (.int .i64 (0 : Int))) rfl ?_
  refine wpList_nil ?_
  refine then_n ?_
  refine seq_reg ?_
  refine o_move (v := (.pointer (some ⟨b, 0, none⟩))) rfl ?_
  refine o_call (args := [(.pointer (some ⟨b, 0, none⟩)), (.int .i64 (256 : Int))]) rfl Try.call24 (Calls.mono (c_Next b len k (256 : Int) hS.view hs (hS.get (i := 0) rfl) (hS.off _ (List.mem_of_getElem? (i := 0) rfl) _ rfl) (by omega)) ?_)
  rintro _ w1 ⟨r1, k1, rfl, hr1, hk1, hkk1, hl1, hg1, ho1⟩
  refine ⟨_, rfl, ?_⟩
  have hS1 := hS.growM hg1 (i := 0) (o' := cod 50 σ0 b len k1) rfl rfl rfl ho1 (ms' := [cod 50 σ0 b len k1]) rfl
  refine o_mul (r := ((256 * r1 : Nat) : Int)) rfl rfl (nw (by omega) (by omega) (by omega)) ?_
  refine o_move (v := (.pointer (some ⟨b, 0, none⟩))) rfl ?_
  refine o_call (args := [(.pointer (some ⟨b, 0, none⟩)), (.int .i64 (256 : Int))]) rfl Try.call24 (Calls.mono (c_Next b len k1 (256 : Int) hS1.view hs (hS1.get (i := 0) rfl) (hS1.off _ (List.mem_of_getElem? (i := 0) rfl) _ rfl) (by omega)) ?_)
  rintro _ w2 ⟨r2, k2, rfl, hr2, hk2, hkk2, hl2, hg2, ho2⟩
  refine ⟨_, rfl, ?_⟩
  have hS2 := hS1.growM hg2 (i := 0) (o' := cod 50 σ0 b len k2) rfl rfl rfl ho2 (ms' := [cod 50 σ0 b len k2]) rfl
  refine o_add (r := ((256 * r1 + r2 : Nat) : Int)) rfl rfl (nw (by omega) (by omega) (by omega)) ?_
  refine o_move (v := (.int .i64 n)) rfl ?_
  obtain ⟨r3, hr3, hr4⟩ := tmod_nat (256 * r1 + r2) (m := n) (by omega)
  refine o_rem (r := ((r3 : Nat) : Int)) rfl rfl (by omega) hr3 ?_
  refine o_assign (v := (.int .i64 ((r3 : Nat) : Int))) rfl ?_
  refine wpList_nil ?_
  refine then_n ?_
  refine wp_ret ?_
  refine ret1 rfl (show ev _ _ _ = (.int .i64 ((r3 : Nat) : Int)) from rfl) ?_
  exact ⟨r3, k2, rfl, by omega, by omega, by omega, by omega, hS2.done, hS2.get (i := 0) rfl⟩

theorem c_New {σ : Hv} {w : World} (v : Value) (l : List UInt8) (most : Nat) (hV : View σ w) (hv : RSl 1 RU8 σ v l) :
    Calls Try.prog 21 #[v, (.int .i64 ((most : Nat) : Int))] w fun e w1 => ∃ b len : Nat, e = .returned (.pointer (some ⟨b, 0, none⟩)) ∧ len ≤ most ∧ len ≤ l.length ∧ Grow [] σ w σ w1 ∧ (cod 50 σ b len 0).ok w1 ∧ ∀ k, (cod 50 σ b len 0).foot = some k → w.heap.size ≤ k ∧ σ k = none := by
  refine enter Try.func21 rfl rfl rfl ?_
  obtain ⟨a, cap, rfl, h1, h2, hel⟩ := hv
  have hS := St.start hV
  refine seq_reg ?_
  refine o_assign (v := (.pointer none)) rfl ?_
  refine wpList_nil ?_
  refine then_n ?_
  refine wp_seq ?_
  refine seq_reg ?_
  refine o_move (v := (.slice a l.length cap)) rfl ?_
  refine o_len_slice rfl Try.underlying22 ?_
  refine o_move (v := (.int .i64 ((most : Nat) : Int))) rfl ?_
  refine o_gtr (r := (decide (((most : Nat) : Int) < ((l.length : Nat) : Int)))) rfl rfl rfl ?_
  refine wpList_nil ?_
  refine then_n ?_
  refine if_d (((most : Nat) : Int) < ((l.length : Nat) : Int)) rfl (fun ht1 => ?_) (fun ht1 => ?_)
  · refine one_reg ?_
    refine o_move (v := (.slice a l.length cap)) rfl ?_
    refine o_move (v := (.int .i64 ((most : Nat) : Int))) rfl ?_
    refine o_prefix (r := most) rfl Try.underlying22 Try.sizeOf5 rfl (by omega) ?_
    refine o_assign (v := (.slice a most cap)) rfl ?_
    refine wpList_nil ?_
    refine then_n ?_
    refine seq_reg ?_
    refine o_move (v := (.slice a most cap)) rfl ?_
    refine o_build (v := (.agg #[(.slice a most cap), (.int .i64 (0 : Int))])) (fun _ => by kernel_rfl) ?_
    refine o_box (cs := [(.slice a most cap), (.int .i64 (0 : Int))]) hS rfl rfl ?_
    intro b1 w1 hS1
    refine o_assign (v := (.pointer (some ⟨b1, 0, none⟩))) rfl ?_
    refine wpList_nil ?_
    refine then_n ?_
    refine wp_ret ?_
    refine ret1 rfl (show ev _ _ _ = (.pointer (some ⟨b1, 0, none⟩)) from rfl) ?_
    exact ⟨b1, most, rfl, by omega, by omega, hS1.done, ⟨_, (l.take most), by simp; omega, RSl.take ⟨a, cap, rfl, h1, h2, hel⟩ most (by omega), Nat.zero_le _, (hS1.own1 (i := 0) rfl).1⟩, (hS1.own1 (i := 0) rfl).2⟩
  · refine wp_skip ?_
    refine then_n ?_
    refine seq_reg ?_
    refine o_move (v := (.slice a l.length cap)) rfl ?_
    refine o_build (v := (.agg #[(.slice a l.length cap), (.int .i64 (0 : Int))])) (fun _ => by kernel_rfl) ?_
    refine o_box (cs := [(.slice a l.length cap), (.int .i64 (0 : Int))]) hS rfl rfl ?_
    intro b2 w2 hS2
    refine o_assign (v := (.pointer (some ⟨b2, 0, none⟩))) rfl ?_
    refine wpList_nil ?_
    refine then_n ?_
    refine wp_ret ?_
    refine ret1 rfl (show ev _ _ _ = (.pointer (some ⟨b2, 0, none⟩)) from rfl) ?_
    exact ⟨b2, l.length, rfl, by omega, by omega, hS2.done, ⟨_, l, rfl, ⟨a, cap, rfl, h1, h2, hel⟩, Nat.zero_le _, (hS2.own1 (i := 0) rfl).1⟩, (hS2.own1 (i := 0) rfl).2⟩

theorem c_Mod {σ : Hv} {w : World} (x n : Int) (hV : View σ w) (hn : 1 ≤ n) (hn2 : n ≤ 4611686018427387904) :
    Calls Try.prog 13 #[(.int .i64 x), (.int .i64 n)] w fun e w1 => ∃ r : Nat, e = .returned (.int .i64 ((r : Nat) : Int)) ∧ ((r : Nat) : Int) < n ∧ Grow [] σ w σ w1 := by
  refine enter Try.func13 rfl rfl rfl ?_
  have hS := St.start hV
  refine seq_reg ?_
  refine o_assign (v := (.int .i64 (0 : Int))) rfl ?_
  refine wpList_nil ?_
  refine then_n ?_
  refine seq_reg ?_
  refine o_move (v := (.int .i64 x)) rfl ?_
  refine o_move (v := (.int .i64 n)) rfl ?_
  obtain ⟨r, hr, hr1, hr2⟩ := tmod_any x (m := n) hn
  refine o_rem (r := r) rfl rfl (by omega) hr ?_
  refine o_assign (v := (.int .i64 r)) rfl ?_
  refine wpList_nil ?_
  refine then_n ?_
  refine wp_seq ?_
  refine seq_reg ?_
  refine o_move (v := (.int .i64 r)) rfl ?_
  refine o_lss (r := (decide (r < (0 : Int)))) rfl rfl rfl ?_
  refine wpList_nil ?_
  refine then_n ?_
  refine if_d (r < (0 : Int)) rfl (fun ht1 => ?_) (fun ht1 => ?_)
  · refine one_reg ?_
    refine o_move (v := (.int .i64 r)) rfl ?_
    refine o_move (v := (.int .i64 n)) rfl ?_
    refine o_add (r := (r + n)) rfl rfl (nw (by omega) (by omega) (by omega)) ?_
    refine o_assign (v := (.int .i64 (r + n))) rfl ?_
    refine wpList_nil ?_
    refine then_n ?_
    refine seq_reg ?_
    refine o_move (v := (.int .i64 (r + n))) rfl ?_
    refine o_assign (v := (.int .i64 (r + n))) rfl ?_
    refine wpList_nil ?_
    refine then_n ?_
    refine wp_ret ?_
    refine ret1 rfl (show ev _ _ _ = (.int .i64 (r + n)) from rfl) ?_
    exact ⟨((r + n)).toNat, by rw [Int.toNat_of_nonneg (by omega)], by omega, hS.done⟩
  · refine wp_skip ?_
    refine then_n ?_
    refine seq_reg ?_
    refine o_move (v := (.int .i64 r)) rfl ?_
    refine o_assign (v := (.int .i64 r)) rfl ?_
    refine wpList_nil ?_
    refine then_n ?_
    refine wp_ret ?_
    refine ret1 rfl (show ev _ _ _ = (.int .i64 r) from rfl) ?_
    exact ⟨(r).toNat, by rw [Int.toNat_of_nonneg (by omega)], by omega, hS.done⟩

theorem c_lawspans {σ : Hv} {w : World} (v : Value) (l : List UInt8) (hV : View σ w) (hv : RSl 1 RU8 σ v l) :
    Calls Try.prog 6 #[v] w fun e w1 => ∃ (v1 : Value) (l1 : List (Int × Int)) (σ1 : Hv), e = .returned v1 ∧ Grow [] σ w σ1 w1 ∧ RSl 2 (REnc encSp) σ1 v1 l1 ∧ l1.length ≤ 50 := by
  refine enter Try.func6 rfl rfl rfl ?_
  have hS := St.start hV
  refine seq_reg ?_
  refine o_assign (v := (.slice none 0 0)) rfl ?_
  refine wpList_nil ?_
  refine then_n ?_
  refine seq_reg ?_
  refine o_move (v := v) rfl ?_
  refine o_call (args := [v, (.int .i64 (50 : Int))]) rfl Try.call21 (Calls.mono (c_New _ l 50 hS.view hv) ?_)
  rintro _ w1 ⟨b1, ln1, rfl, hle1, _, hg1, ho1⟩
  refine ⟨_, rfl, ?_⟩
  have hS1 := hS.growAdd hg1 (o := cod 50 σ b1 ln1 0) ho1
  refine o_assign (v := (.pointer (some ⟨b1, 0, none⟩))) rfl ?_
  refine wpList_nil ?_
  refine then_n ?_
  refine seq_reg ?_
  refine o_assign (v := (.slice none 0 0)) rfl ?_
  refine wpList_nil ?_
  refine then_n ?_
  refine seq_reg ?_
  refine o_assign (v := (.int .i64 (0 : Int))) rfl ?_
  refine wpList_nil ?_
  refine then_n ?_
  refine wp_seq ?_
  refine wp_block ?_
  have hSn := hS1.addNil 37 2
  refine loop (fun m f z => ∃ (k : Nat) (a1 : Int) (v : Value) (l1 : List (Int × Int)) (g : Fr), m = ln1 - k ∧ f = (upd (upd (upd g 3 (.pointer (some ⟨b1, 0, none⟩))) 4 v) 5 (.int .i64 a1)) ∧ St ⟨w, σ, []⟩ z σ [vec v 37 2 l1.length (l1.flatMap encSp), cod 50 σ b1 ln1 k] ∧ (v.oneCell' = true) ∧ (-(5 * (k : Int)) ≤ a1) ∧ (a1 ≤ 10000 + 900 * (k : Int)) ∧ (l1.length ≤ k) ∧ (k ≤ ln1)) (m0 := _) ⟨0, 0, _, [], _, rfl, (upd_in rfl (upd_in rfl (upd_in rfl rfl))), hSn, rfl, by omega, by omega, by simp, by omega⟩ ?_
  rintro _ _ w2 ⟨k, a1, v, l1, g, rfl, rfl, hS2, hone, hlo, hhi, hll, hkl⟩
  refine wp_seq ?_
  refine seq_reg ?_
  refine o_move (v := (.pointer (some ⟨b1, 0, none⟩))) rfl ?_
  refine o_call (args := [(.pointer (some ⟨b1, 0, none⟩))]) rfl Try.call22 (Calls.mono (c_Left b1 ln1 k hS2.view (Sub.refl _) (hS2.get (i := 1) rfl) (hS2.off _ (List.mem_of_getElem? (i := 1) rfl) _ rfl)) ?_)
  rintro _ w3 ⟨rfl, hg2, hb1⟩
  refine ⟨_, rfl, ?_⟩
  have hS3 := hS2.growM hg2 (i := 1) (o' := cod 50 σ b1 ln1 k) rfl rfl rfl (HObj.stay _ _ _ (by rintro k ⟨⟩; exact hb1) (hS2.get (i := 1) rfl)) (ms' := [vec v 37 2 l1.length (l1.flatMap encSp), cod 50 σ b1 ln1 k]) rfl
  refine wpList_nil ?_
  refine then_n ?_
  refine if_d (k < ln1) rfl (fun ht1 => ?_) (fun ht1 => ?_)
  · refine wp_skip ?_
    refine then_n ?_
    refine wp_block ?_
    refine seq_reg ?_
    refine o_move (v := (.pointer (some ⟨b1, 0, none⟩))) rfl ?_
    refine o_call (args := [(.pointer (some ⟨b1, 0, none⟩)), (.int .i64 (10000 : Int))]) rfl Try.call23 (Calls.mono (c_Wide b1 ln1 k (10000 : Int) hS3.view (Sub.refl _) (hS3.get (i := 1) rfl) (hS3.off _ (List.mem_of_getElem? (i := 1) rfl) _ rfl) (by omega)) ?_)
    rintro _ w4 ⟨r1, k1, rfl, hr1, hk1, hkk1, hl1, hg3, ho2⟩
    refine ⟨_, rfl, ?_⟩
    have hS4 := hS3.growM hg3 (i := 1) (o' := cod 50 σ b1 ln1 k1) rfl rfl rfl ho2 (ms' := [vec v 37 2 l1.length (l1.flatMap encSp), cod 50 σ b1 ln1 k1]) rfl
    refine o_assign (v := (.int .i64 ((r1 : Nat) : Int))) rfl ?_
    refine wpList_nil ?_
    refine then_n ?_
    refine wp_seq ?_
    refine seq_reg ?_
    refine o_move (v := (.pointer (some ⟨b1, 0, none⟩))) rfl ?_
    refine o_call (args := [(.pointer (some ⟨b1, 0, none⟩)), (.int .i64 (3 : Int))]) rfl Try.call24 (Calls.mono (c_Next b1 ln1 k1 (3 : Int) hS4.view (Sub.refl _) (hS4.get (i := 1) rfl) (hS4.off _ (List.mem_of_getElem? (i := 1) rfl) _ rfl) (by omega)) ?_)
    rintro _ w5 ⟨r2, k2, rfl, hr2, hk2, hkk2, hl2, hg4, ho3⟩
    refine ⟨_, rfl, ?_⟩
    have hS5 := hS4.growM hg4 (i := 1) (o' := cod 50 σ b1 ln1 k2) rfl rfl rfl ho3 (ms' := [vec v 37 2 l1.length (l1.flatMap encSp), cod 50 σ b1 ln1 k2]) rfl
    refine o_eql (r := (decide (((r2 : Nat) : Int) = (1 : Int)))) rfl rfl rfl ?_
    refine wpList_nil ?_
    refine then_n ?_
    refine if_d (((r2 : Nat) : Int) = (1 : Int)) rfl (fun ht2 => ?_) (fun ht2 => ?_)
    · refine one_reg ?_
      refine o_move (v := (.int .i64 a1)) rfl ?_
      refine o_assign (v := (.int .i64 a1)) rfl ?_
      refine wpList_nil ?_
      refine then_n ?_
      refine seq_reg ?_
      refine o_move (v := (.int .i64 a1)) rfl ?_
      refine o_move (v := (.pointer (some ⟨b1, 0, none⟩))) rfl ?_
      refine o_call (args := [(.pointer (some ⟨b1, 0, none⟩)), (.int .i64 (900 : Int))]) rfl Try.call23 (Calls.mono (c_Wide b1 ln1 k2 (900 : Int) hS5.view (Sub.refl _) (hS5.get (i := 1) rfl) (hS5.off _ (List.mem_of_getElem? (i := 1) rfl) _ rfl) (by omega)) ?_)
      rintro _ w6 ⟨r3, k3, rfl, hr3, hk3, hkk3, hl3, hg5, ho4⟩
      refine ⟨_, rfl, ?_⟩
      have hS6 := hS5.growM hg5 (i := 1) (o' := cod 50 σ b1 ln1 k3) rfl rfl rfl ho4 (ms' := [vec v 37 2 l1.length (l1.flatMap encSp), cod 50 σ b1 ln1 k3]) rfl
      refine o_add (r := (a1 + ((r3 : Nat) : Int))) rfl rfl (nw (by omega) (by omega) (by omega)) ?_
      refine o_sub (r := ((a1 + ((r3 : Nat) : Int)) - (5 : Int))) rfl rfl (nw (by omega) (by omega) (by omega)) ?_
      refine o_assign (v := (.int .i64 ((a1 + ((r3 : Nat) : Int)) - (5 : Int)))) rfl ?_
      refine wpList_nil ?_
      refine then_n ?_
      refine one_reg ?_
      refine o_move (v := v) rfl ?_
      refine o_move (v := (.int .i64 a1)) rfl ?_
      refine o_move (v := (.int .i64 ((a1 + ((r3 : Nat) : Int)) - (5 : Int)))) rfl ?_
      refine o_build (v := (.agg #[(.int .i64 a1), (.int .i64 ((a1 + ((r3 : Nat) : Int)) - (5 : Int)))])) (fun _ => by kernel_rfl) ?_
      refine o_bslice (cs := [(.int .i64 a1), (.int .i64 ((a1 + ((r3 : Nat) : Int)) - (5 : Int)))]) (e := 37) hS6 (fun _ => by kernel_rfl) ?_
      intro b2 w7 hS7
      refine o_append (Ms := fun v1 => [blk b2 37 [(.int .i64 a1), (.int .i64 ((a1 + ((r3 : Nat) : Int)) - (5 : Int)))], vec v1 37 2 (l1.length + 1) ((l1 ++ [(a1, ((a1 + ((r3 : Nat) : Int)) - (5 : Int)))]).flatMap encSp), cod 50 σ b1 ln1 k3]) (xs' := (l1 ++ [(a1, ((a1 + ((r3 : Nat) : Int)) - (5 : Int)))]).flatMap encSp) Try.underlying24 Try.type37 rfl rfl (bytes := 16) rfl rfl (Nat.succ_pos _) hS7 rfl (q := 1) rfl rfl rfl (blk_row (hS7.get (i := 0) rfl)) (ones rfl) (by omega) (by unfold maxLen; omega) (flat_snoc _ (a1, ((a1 + ((r3 : Nat) : Int)) - (5 : Int)))) (fun _ => rfl) ?_
      intro v1 w8 ho5 hS8
      have hS9 := hS8.drop 0 (ms' := [vec v1 37 2 (l1.length + 1) ((l1 ++ [(a1, ((a1 + ((r3 : Nat) : Int)) - (5 : Int)))]).flatMap encSp), cod 50 σ b1 ln1 k3]) rfl
      refine o_assign (v := v1) rfl ?_
      refine wpList_nil ?_
      refine blk_n ?_
      refine then_n ?_
      exact ⟨_, _, rfl, ⟨k3, ((a1 + ((r3 : Nat) : Int)) - (5 : Int)), v1, l1 ++ [(a1, ((a1 + ((r3 : Nat) : Int)) - (5 : Int)))], _, rfl, (upd_in rfl (upd_in rfl (upd_in rfl rfl))), (by simpa using hS9), ho5, by omega, by omega, by simp; omega, by omega⟩, by omega⟩
    · refine wp_skip ?_
      refine then_n ?_
      refine seq_reg ?_
      refine o_move (v := (.int .i64 ((r1 : Nat) : Int))) rfl ?_
      refine o_move (v := (.pointer (some ⟨b1, 0, none⟩))) rfl ?_
      refine o_call (args := [(.pointer (some ⟨b1, 0, none⟩)), (.int .i64 (900 : Int))]) rfl Try.call23 (Calls.mono (c_Wide b1 ln1 k2 (900 : Int) hS5.view (Sub.refl _) (hS5.get (i := 1) rfl) (hS5.off _ (List.mem_of_getElem? (i := 1) rfl) _ rfl) (by omega)) ?_)
      rintro _ w9 ⟨r4, k4, rfl, hr4, hk4, hkk4, hl4, hg6, ho6⟩
      refine ⟨_, rfl, ?_⟩
      have hS10 := hS5.growM hg6 (i := 1) (o' := cod 50 σ b1 ln1 k4) rfl rfl rfl ho6 (ms' := [vec v 37 2 l1.length (l1.flatMap encSp), cod 50 σ b1 ln1 k4]) rfl
      refine o_add (r := ((r1 + r4 : Nat) : Int)) rfl rfl (nw (by omega) (by omega) (by omega)) ?_
      refine o_sub (r := (((r1 + r4 : Nat) : Int) - (5 : Int))) rfl rfl (nw (by omega) (by omega) (by omega)) ?_
      refine o_assign (v := (.int .i64 (((r1 + r4 : Nat) : Int) - (5 : Int)))) rfl ?_
      refine wpList_nil ?_
      refine then_n ?_
      refine one_reg ?_
      refine o_move (v := v) rfl ?_
      refine o_move (v := (.int .i64 ((r1 : Nat) : Int))) rfl ?_
      refine o_move (v := (.int .i64 (((r1 + r4 : Nat) : Int) - (5 : Int)))) rfl ?_
      refine o_build (v := (.agg #[(.int .i64 ((r1 : Nat) : Int)), (.int .i64 (((r1 + r4 : Nat) : Int) - (5 : Int)))])) (fun _ => by kernel_rfl) ?_
      refine o_bslice (cs := [(.int .i64 ((r1 : Nat) : Int)), (.int .i64 (((r1 + r4 : Nat) : Int) - (5 : Int)))]) (e := 37) hS10 (fun _ => by kernel_rfl) ?_
      intro b3 w10 hS11
      refine o_append (Ms := fun v2 => [blk b3 37 [(.int .i64 ((r1 : Nat) : Int)), (.int .i64 (((r1 + r4 : Nat) : Int) - (5 : Int)))], vec v2 37 2 (l1.length + 1) ((l1 ++ [(((r1 : Nat) : Int), (((r1 + r4 : Nat) : Int) - (5 : Int)))]).flatMap encSp), cod 50 σ b1 ln1 k4]) (xs' := (l1 ++ [(((r1 : Nat) : Int), (((r1 + r4 : Nat) : Int) - (5 : Int)))]).flatMap encSp) Try.underlying24 Try.type37 rfl rfl (bytes := 16) rfl rfl (Nat.succ_pos _) hS11 rfl (q := 1) rfl rfl rfl (blk_row (hS11.get (i := 0) rfl)) (ones rfl) (by omega) (by unfold maxLen; omega) (flat_snoc _ (((r1 : Nat) : Int), (((r1 + r4 : Nat) : Int) - (5 : Int)))) (fun _ => rfl) ?_
      intro v2 w11 ho7 hS12
      have hS13 := hS12.drop 0 (ms' := [vec v2 37 2 (l1.length + 1) ((l1 ++ [(((r1 : Nat) : Int), (((r1 + r4 : Nat) : Int) - (5 : Int)))]).flatMap encSp), cod 50 σ b1 ln1 k4]) rfl
      refine o_assign (v := v2) rfl ?_
      refine wpList_nil ?_
      refine blk_n ?_
      refine then_n ?_
      exact ⟨_, _, rfl, ⟨k4, (((r1 + r4 : Nat) : Int) - (5 : Int)), v2, l1 ++ [(((r1 : Nat) : Int), (((r1 + r4 : Nat) : Int) - (5 : Int)))], _, rfl, (upd_in rfl (upd_in rfl (upd_in rfl rfl))), (by simpa using hS13), ho7, by omega, by omega, by simp; omega, by omega⟩, by omega⟩
  · refine wp_exit ?_
    refine then_e ?_
    refine then_e ?_
    refine blk_hit ?_
    refine then_n ?_
    refine seq_reg ?_
    refine o_move (v := v) rfl ?_
    refine o_assign (v := v) rfl ?_
    refine wpList_nil ?_
    refine then_n ?_
    refine wp_ret ?_
    refine ret1 rfl (show ev _ _ _ = v from rfl) ?_
    obtain ⟨σ1, hS14, hsub1, hfr1⟩ := hS3.freeze (i := 0) rfl rfl rfl
    exact ⟨v, l1, σ1, rfl, hS14.done, RSl.ofVecEnc encSp_len (hS3.get (i := 0) rfl) hfr1 rfl (by omega), by omega⟩


end Go.Proofs.Ytddgjdaobcbcaaa
