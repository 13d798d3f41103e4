/- What a call answers, and that it leaves the memory that was there as it was: (*flagstone/flagstonedata.Source).More, (*flagstone/flagstonedata.Source).Next, flagstone/flagstonedata.Ids, flagstone/flagstonedata.Id. Conditions: those of each statement (that the arguments can be read). -/
import Derived.Test.YtehmnkholidanaaRows
import Derived.Test.YtehmnkholidanaaFlSort
import Derived.Test.YtehmnkholidanaaShelf
import Derived.KernelRfl
import Derived.Test.YtehmnkholidanaaA2
namespace Go.Proofs.Ytehmnkholidanaa
open Go Go.RowKit Go.Fl

theorem c_Left {σ σ0 : Hv} {w : World} (b len k : Nat) (hV : View σ w) (hs : Sub σ0 σ) (ho : (cod 46 σ0 b len k).ok w) (hσ : σ b = none) :
    Calls Try.prog 29 #[(.pointer (some ⟨b, 0, none⟩))] w fun e w1 => e = .returned (.bool (decide (k < len))) ∧ Grow [b] σ w σ w1 ∧ w1.heap[b]? = w.heap[b]? := by
  refine enter Try.func29 rfl rfl rfl ?_
  have _hs := hs
  obtain ⟨v, l, hl, hv, hk, hb⟩ := ho
  obtain ⟨a, cap, rfl, h1, h2, hel⟩ := hv
  have hS := St.start1 (o := blk b 46 [.slice a l.length cap, .int .i64 (k : Nat)]) (b := b) hV hb rfl hσ
  refine seq_reg ?_
  refine o_assign (v := (.bool false)) rfl ?_
  refine wpList_nil ?_
  refine then_n ?_
  refine wp_seq ?_
  refine d_reg (fun z => St ⟨w, σ, [b]⟩ z σ [blk b 46 [(.slice a l.length cap), (.int .i64 ((k : Nat) : Int))]]) (by kernel_rfl) rfl rfl ?_
  have hS1 := hS.drew
  refine d_take (i := 0) (v := (.pointer (some ⟨b, 0, none⟩))) (l' := #[true, false, false, false, false, false, false, false, false, false, false]) rfl (by kernel_rfl) (by kernel_rfl) (by kernel_rfl) rfl rfl (fun _ _ _ h => h) hS1 (fun w hJ K hK => ?_) ?_
  · refine o_move (v := (.pointer (some ⟨b, 0, none⟩))) rfl ?_
    exact ⟨rfl, hK⟩
  refine d_take (i := 1) (v := (.pointer (some ⟨b, 0, none⟩))) (l' := #[true, true, false, false, false, false, false, false, false, false, false]) rfl (by kernel_rfl) (by kernel_rfl) (by kernel_rfl) rfl rfl (fun _ _ _ h => h) hS1 (fun w hJ K hK => ?_) ?_
  · refine o_nil rfl ?_
    exact ⟨rfl, hK⟩
  refine d_take (i := 2) (v := (.pointer (some ⟨b, 1, none⟩))) (l' := #[true, true, true, false, false, false, false, false, false, false, false]) rfl (by kernel_rfl) (by kernel_rfl) (by kernel_rfl) rfl rfl (fun _ _ _ h => h) hS1 (fun w hJ K hK => ?_) ?_
  · refine o_faddr (a' := ⟨b, 1, none⟩) rfl Try.underlying46 rfl Try.sizeOf3 rfl ?_
    exact ⟨rfl, hK⟩
  refine d_take (i := 3) (v := (.int .i64 ((k : Nat) : Int))) (l' := #[true, true, true, true, false, false, false, false, false, false, false]) rfl (by kernel_rfl) (by kernel_rfl) (by kernel_rfl) rfl rfl (fun _ _ _ h => h) hS1 (fun w hJ K hK => ?_) ?_
  · refine o_load (v := (.int .i64 ((k : Nat) : Int))) rfl Try.isAgg3 (hJ.cell (i := 0) rfl rfl) ?_
    exact ⟨rfl, hK⟩
  refine d_take (i := 4) (v := (.pointer (some ⟨b, 0, none⟩))) (l' := #[true, true, true, true, true, false, false, false, false, false, false]) rfl (by kernel_rfl) (by kernel_rfl) (by kernel_rfl) rfl rfl (fun _ _ _ h => h) hS1 (fun w hJ K hK => ?_) ?_
  · refine o_move (v := (.pointer (some ⟨b, 0, none⟩))) rfl ?_
    exact ⟨rfl, hK⟩
  refine d_take (i := 5) (v := (.pointer (some ⟨b, 0, none⟩))) (l' := #[true, true, true, true, true, true, false, false, false, false, false]) rfl (by kernel_rfl) (by kernel_rfl) (by kernel_rfl) rfl rfl (fun _ _ _ h => h) hS1 (fun w hJ K hK => ?_) ?_
  · refine o_nil rfl ?_
    exact ⟨rfl, hK⟩
  refine d_take (i := 6) (v := (.pointer (some ⟨b, 0, none⟩))) (l' := #[true, true, true, true, true, true, true, false, false, false, false]) rfl (by kernel_rfl) (by kernel_rfl) (by kernel_rfl) rfl rfl (fun _ _ _ h => h) hS1 (fun w hJ K hK => ?_) ?_
  · refine o_faddr (a' := ⟨b, 0, none⟩) rfl Try.underlying46 rfl Try.sizeOf22 rfl ?_
    exact ⟨rfl, hK⟩
  refine d_take (i := 7) (v := (.slice a l.length cap)) (l' := #[true, true, true, true, true, true, true, true, false, false, false]) rfl (by kernel_rfl) (by kernel_rfl) (by kernel_rfl) rfl rfl (fun _ _ _ h => h) hS1 (fun w hJ K hK => ?_) ?_
  · refine o_load (v := (.slice a l.length cap)) rfl Try.isAgg22 (hJ.cell (i := 0) rfl rfl) ?_
    exact ⟨rfl, hK⟩
  refine d_take (i := 8) (v := (.int .i64 ((l.length : Nat) : Int))) (l' := #[true, true, true, true, true, true, true, true, true, false, false]) rfl (by kernel_rfl) (by kernel_rfl) (by kernel_rfl) rfl rfl (fun _ _ _ h => h) hS1 (fun w hJ K hK => ?_) ?_
  · refine o_len_slice rfl Try.underlying22 ?_
    exact ⟨rfl, hK⟩
  refine d_take (i := 9) (v := (.bool (decide (((k : Nat) : Int) < ((l.length : Nat) : Int))))) (l' := #[true, true, true, true, true, true, true, true, true, true, false]) rfl (by kernel_rfl) (by kernel_rfl) (by kernel_rfl) rfl rfl (fun _ _ _ h => h) hS1 (fun w hJ K hK => ?_) ?_
  · refine o_lss (r := (decide (((k : Nat) : Int) < ((l.length : Nat) : Int)))) rfl rfl rfl ?_
    exact ⟨rfl, hK⟩
  refine d_take (i := 10) (v := (.bool (decide (((k : Nat) : Int) < ((l.length : Nat) : Int))))) (l' := #[true, true, true, true, true, true, true, true, true, true, true]) rfl (by kernel_rfl) (by kernel_rfl) (by kernel_rfl) rfl rfl (fun _ _ _ h => h) hS1 (fun w hJ K hK => ?_) ?_
  · refine o_assign (v := (.bool (decide (((k : Nat) : Int) < ((l.length : Nat) : Int))))) rfl ?_
    exact ⟨rfl, hK⟩
  refine d_done (by kernel_rfl) ?_
  refine then_n ?_
  refine wp_ret ?_
  refine ret1 rfl (show ev _ _ _ = (.bool (decide (((k : Nat) : Int) < ((l.length : Nat) : Int)))) from rfl) ?_
  exact ⟨by simp [hl], hS1.done, (hS1.get (i := 0) rfl).trans hb.symm⟩

theorem c_Next {σ σ0 : Hv} {w : World} (b len k : Nat) (n : Int) (hV : View σ w) (hs : Sub σ0 σ) (ho : (cod 46 σ0 b len k).ok w) (hσ : σ b = none) (hn : 1 ≤ n) :
    Calls Try.prog 30 #[(.pointer (some ⟨b, 0, none⟩)), (.int .i64 n)] w fun e w1 => ∃ r k1 : Nat, e = .returned (.int .i64 ((r : Nat) : Int)) ∧ ((r : Nat) : Int) < n ∧ k ≤ k1 ∧ (k < len → k < k1) ∧ k1 ≤ len ∧ Grow [b] σ w σ w1 ∧ (cod 46 σ0 b len k1).ok w1 := by
  refine enter Try.func30 rfl rfl rfl ?_
  have _hs := hs
  obtain ⟨v, l, hl, hv, hk, hb⟩ := ho
  obtain ⟨a, cap, rfl, h1, h2, hel⟩ := hv
  have hS := St.start1 (o := blk b 46 [.slice a l.length cap, .int .i64 (k : Nat)]) (b := b) hV hb rfl hσ
  refine seq_reg ?_
  refine o_assign (v := (.int .i64 (0 : Int))) rfl ?_
  refine wpList_nil ?_
  refine then_n ?_
  refine wp_seq ?_
  refine wp_seq ?_
  refine d_reg (fun z => St ⟨w, σ, [b]⟩ z σ [blk b 46 [(.slice a l.length cap), (.int .i64 ((k : Nat) : Int))]]) (by kernel_rfl) rfl rfl ?_
  have hS1 := hS.drew
  refine d_take (i := 0) (v := (.pointer (some ⟨b, 0, none⟩))) (l' := #[true, false, false, false, false, false, false, false, false, false]) rfl (by kernel_rfl) (by kernel_rfl) (by kernel_rfl) rfl rfl (fun _ _ _ h => h) hS1 (fun w hJ K hK => ?_) ?_
  · refine o_move (v := (.pointer (some ⟨b, 0, none⟩))) rfl ?_
    exact ⟨rfl, hK⟩
  refine d_take (i := 1) (v := (.pointer (some ⟨b, 0, none⟩))) (l' := #[true, true, false, false, false, false, false, false, false, false]) rfl (by kernel_rfl) (by kernel_rfl) (by kernel_rfl) rfl rfl (fun _ _ _ h => h) hS1 (fun w hJ K hK => ?_) ?_
  · refine o_nil rfl ?_
    exact ⟨rfl, hK⟩
  refine d_take (i := 2) (v := (.pointer (some ⟨b, 1, none⟩))) (l' := #[true, true, true, false, false, false, false, false, false, false]) rfl (by kernel_rfl) (by kernel_rfl) (by kernel_rfl) rfl rfl (fun _ _ _ h => h) hS1 (fun w hJ K hK => ?_) ?_
  · refine o_faddr (a' := ⟨b, 1, none⟩) rfl Try.underlying46 rfl Try.sizeOf3 rfl ?_
    exact ⟨rfl, hK⟩
  refine d_take (i := 3) (v := (.int .i64 ((k : Nat) : Int))) (l' := #[true, true, true, true, false, false, false, false, false, false]) rfl (by kernel_rfl) (by kernel_rfl) (by kernel_rfl) rfl rfl (fun _ _ _ h => h) hS1 (fun w hJ K hK => ?_) ?_
  · refine o_load (v := (.int .i64 ((k : Nat) : Int))) rfl Try.isAgg3 (hJ.cell (i := 0) rfl rfl) ?_
    exact ⟨rfl, hK⟩
  refine d_take (i := 4) (v := (.pointer (some ⟨b, 0, none⟩))) (l' := #[true, true, true, true, true, false, false, false, false, false]) rfl (by kernel_rfl) (by kernel_rfl) (by kernel_rfl) rfl rfl (fun _ _ _ h => h) hS1 (fun w hJ K hK => ?_) ?_
  · refine o_move (v := (.pointer (some ⟨b, 0, none⟩))) rfl ?_
    exact ⟨rfl, hK⟩
  refine d_take (i := 5) (v := (.pointer (some ⟨b, 0, none⟩))) (l' := #[true, true, true, true, true, true, false, false, false, false]) rfl (by kernel_rfl) (by kernel_rfl) (by kernel_rfl) rfl rfl (fun _ _ _ h => h) hS1 (fun w hJ K hK => ?_) ?_
  · refine o_nil rfl ?_
    exact ⟨rfl, hK⟩
  refine d_take (i := 6) (v := (.pointer (some ⟨b, 0, none⟩))) (l' := #[true, true, true, true, true, true, true, false, false, false]) rfl (by kernel_rfl) (by kernel_rfl) (by kernel_rfl) rfl rfl (fun _ _ _ h => h) hS1 (fun w hJ K hK => ?_) ?_
  · refine o_faddr (a' := ⟨b, 0, none⟩) rfl Try.underlying46 rfl Try.sizeOf22 rfl ?_
    exact ⟨rfl, hK⟩
  refine d_take (i := 7) (v := (.slice a l.length cap)) (l' := #[true, true, true, true, true, true, true, true, false, false]) rfl (by kernel_rfl) (by kernel_rfl) (by kernel_rfl) rfl rfl (fun _ _ _ h => h) hS1 (fun w hJ K hK => ?_) ?_
  · refine o_load (v := (.slice a l.length cap)) rfl Try.isAgg22 (hJ.cell (i := 0) rfl rfl) ?_
    exact ⟨rfl, hK⟩
  refine d_take (i := 8) (v := (.int .i64 ((l.length : Nat) : Int))) (l' := #[true, true, true, true, true, true, true, true, true, false]) rfl (by kernel_rfl) (by kernel_rfl) (by kernel_rfl) rfl rfl (fun _ _ _ h => h) hS1 (fun w hJ K hK => ?_) ?_
  · refine o_len_slice rfl Try.underlying22 ?_
    exact ⟨rfl, hK⟩
  refine d_take (i := 9) (v := (.bool (decide (((l.length : Nat) : Int) ≤ ((k : Nat) : Int))))) (l' := #[true, true, true, true, true, true, true, true, true, true]) rfl (by kernel_rfl) (by kernel_rfl) (by kernel_rfl) rfl rfl (fun _ _ _ h => h) hS1 (fun w hJ K hK => ?_) ?_
  · refine o_geq (r := (decide (((l.length : Nat) : Int) ≤ ((k : Nat) : Int)))) rfl rfl rfl ?_
    exact ⟨rfl, hK⟩
  refine d_done (by kernel_rfl) ?_
  refine then_n ?_
  refine if_d (((l.length : Nat) : Int) ≤ ((k : Nat) : Int)) rfl (fun ht1 => ?_) (fun ht1 => ?_)
  · refine seq_reg ?_
    refine o_assign (v := (.int .i64 (0 : Int))) rfl ?_
    refine wpList_nil ?_
    refine then_n ?_
    refine wp_ret ?_
    refine then_r ?_
    refine ret1 rfl (show ev _ _ _ = (.int .i64 (0 : Int)) from rfl) ?_
    exact ⟨0, k, rfl, by omega, by omega, by omega, by omega, hS1.done, _, l, hl, ⟨a, cap, rfl, h1, h2, hel⟩, by omega, hS1.get (i := 0) rfl⟩
  · refine wp_skip ?_
    refine then_n ?_
    refine seq_reg ?_
    refine o_move (v := (.pointer (some ⟨b, 0, none⟩))) rfl ?_
    refine o_nil rfl ?_
    refine o_faddr (a' := ⟨b, 1, none⟩) rfl Try.underlying46 rfl Try.sizeOf3 rfl ?_
    refine o_load (v := (.int .i64 ((k : Nat) : Int))) rfl Try.isAgg3 (hS1.cell (i := 0) rfl rfl) ?_
    refine o_add (r := ((k + 1 : Nat) : Int)) rfl rfl (nw (by omega) (by omega) (by omega)) ?_
    refine o_nil rfl ?_
    refine o_faddr (a' := ⟨b, 1, none⟩) rfl Try.underlying46 rfl Try.sizeOf3 rfl ?_
    refine o_store (T := 46) (vs := [(.int .i64 ((k + 1 : Nat) : Int))]) (cs' := [(.slice a l.length cap), (.int .i64 ((k + 1 : Nat) : Int))]) (ms' := [blk b 46 [(.slice a l.length cap), (.int .i64 ((k + 1 : Nat) : Int))]]) (i := 0) hS1 rfl rfl rfl Try.sizeOf3 rfl (ones rfl) rfl (Nat.le_of_ble_eq_true rfl) rfl rfl ?_
    intro w1 hS2
    refine wpList_nil ?_
    refine then_n ?_
    refine wp_seq ?_
    refine d_reg (fun z => St ⟨w, σ, [b]⟩ z σ [blk b 46 [(.slice a l.length cap), (.int .i64 ((k + 1 : Nat) : Int))]]) (by kernel_rfl) rfl rfl ?_
    have hS3 := hS2.drew
    refine d_take (i := 0) (v := (.pointer (some ⟨b, 0, none⟩))) (l' := #[true, false, false, false, false, false, false, false, false, false, false, false, false, false, false]) rfl (by kernel_rfl) (by kernel_rfl) (by kernel_rfl) rfl rfl (fun _ _ _ h => h) hS3 (fun w hJ K hK => ?_) ?_
    · refine o_move (v := (.pointer (some ⟨b, 0, none⟩))) rfl ?_
      exact ⟨rfl, hK⟩
    refine d_take (i := 1) (v := (.pointer (some ⟨b, 0, none⟩))) (l' := #[true, true, false, false, false, false, false, false, false, false, false, false, false, false, false]) rfl (by kernel_rfl) (by kernel_rfl) (by kernel_rfl) rfl rfl (fun _ _ _ h => h) hS3 (fun w hJ K hK => ?_) ?_
    · refine o_nil rfl ?_
      exact ⟨rfl, hK⟩
    refine d_take (i := 2) (v := (.pointer (some ⟨b, 0, none⟩))) (l' := #[true, true, true, false, false, false, false, false, false, false, false, false, false, false, false]) rfl (by kernel_rfl) (by kernel_rfl) (by kernel_rfl) rfl rfl (fun _ _ _ h => h) hS3 (fun w hJ K hK => ?_) ?_
    · refine o_faddr (a' := ⟨b, 0, none⟩) rfl Try.underlying46 rfl Try.sizeOf22 rfl ?_
      exact ⟨rfl, hK⟩
    refine d_take (i := 3) (v := (.slice a l.length cap)) (l' := #[true, true, true, true, false, false, false, false, false, false, false, false, false, false, false]) rfl (by kernel_rfl) (by kernel_rfl) (by kernel_rfl) rfl rfl (fun _ _ _ h => h) hS3 (fun w hJ K hK => ?_) ?_
    · refine o_load (v := (.slice a l.length cap)) rfl Try.isAgg22 (hJ.cell (i := 0) rfl rfl) ?_
      exact ⟨rfl, hK⟩
    refine d_take (i := 4) (v := (.pointer (some ⟨b, 0, none⟩))) (l' := #[true, true, true, true, true, false, false, false, false, false, false, false, false, false, false]) rfl (by kernel_rfl) (by kernel_rfl) (by kernel_rfl) rfl rfl (fun _ _ _ h => h) hS3 (fun w hJ K hK => ?_) ?_
    · refine o_move (v := (.pointer (some ⟨b, 0, none⟩))) rfl ?_
      exact ⟨rfl, hK⟩
    refine d_take (i := 5) (v := (.pointer (some ⟨b, 0, none⟩))) (l' := #[true, true, true, true, true, true, false, false, false, false, false, false, false, false, false]) rfl (by kernel_rfl) (by kernel_rfl) (by kernel_rfl) rfl rfl (fun _ _ _ h => h) hS3 (fun w hJ K hK => ?_) ?_
    · refine o_nil rfl ?_
      exact ⟨rfl, hK⟩
    refine d_take (i := 6) (v := (.pointer (some ⟨b, 1, none⟩))) (l' := #[true, true, true, true, true, true, true, false, false, false, false, false, false, false, false]) rfl (by kernel_rfl) (by kernel_rfl) (by kernel_rfl) rfl rfl (fun _ _ _ h => h) hS3 (fun w hJ K hK => ?_) ?_
    · refine o_faddr (a' := ⟨b, 1, none⟩) rfl Try.underlying46 rfl Try.sizeOf3 rfl ?_
      exact ⟨rfl, hK⟩
    refine d_take (i := 7) (v := (.int .i64 ((k + 1 : Nat) : Int))) (l' := #[true, true, true, true, true, true, true, true, false, false, false, false, false, false, false]) rfl (by kernel_rfl) (by kernel_rfl) (by kernel_rfl) rfl rfl (fun _ _ _ h => h) hS3 (fun w hJ K hK => ?_) ?_
    · refine o_load (v := (.int .i64 ((k + 1 : Nat) : Int))) rfl Try.isAgg3 (hJ.cell (i := 0) rfl rfl) ?_
      exact ⟨rfl, hK⟩
    refine d_take (i := 8) (v := (.int .i64 (((k + 1 : Nat) : Int) - (1 : Int)))) (l' := #[true, true, true, true, true, true, true, true, true, false, false, false, false, false, false]) rfl (by kernel_rfl) (by kernel_rfl) (by kernel_rfl) rfl rfl (fun _ _ _ h => h) hS3 (fun w hJ K hK => ?_) ?_
    · refine o_sub (r := (((k + 1 : Nat) : Int) - (1 : Int))) rfl rfl (nw (by omega) (by omega) (by omega)) ?_
      exact ⟨rfl, hK⟩
    obtain ⟨x1, hx1⟩ := getq (l := l) (k := (k + 1 - 1)) (by omega)
    obtain ⟨ad1, cs1, ha1, hl1, hr1, hR1⟩ := hel ((k + 1 - 1)) _ hx1
    cases hR1
    have hlt1 := x1.toNat_lt
    refine d_take (i := 9) (v := (.pointer (some (ad1.add (((k + 1 - 1)) * 1))))) (l' := #[true, true, true, true, true, true, true, true, true, true, false, false, false, false, false]) rfl (by kernel_rfl) (by kernel_rfl) (by kernel_rfl) rfl rfl (fun _ _ _ h => h) hS3 (fun w hJ K hK => ?_) ?_
    · refine o_iaddr_slice (k := (k + 1 - 1)) (a' := (ad1.add (((k + 1 - 1)) * 1))) (congrArg (fun z => Value.slice z _ _) ha1) rfl (by omega) (lt_of_getq hx1) Try.underlying22 Try.sizeOf5 rfl ?_
      exact ⟨rfl, hK⟩
    refine d_take (i := 10) (v := (.int .u8 ((x1.toNat : Nat) : Int))) (l' := #[true, true, true, true, true, true, true, true, true, true, true, false, false, false, false]) rfl (by kernel_rfl) (by kernel_rfl) (by kernel_rfl) rfl rfl (fun _ _ _ h => h) hS3 (fun w hJ K hK => ?_) ?_
    · refine o_load (v := (.int .u8 ((x1.toNat : Nat) : Int))) rfl Try.isAgg5 (hr1.cell (View.of hs hJ.view) 0 rfl rfl) ?_
      exact ⟨rfl, hK⟩
    refine d_take (i := 11) (v := (.int .i64 ((x1.toNat : Nat) : Int))) (l' := #[true, true, true, true, true, true, true, true, true, true, true, true, false, false, false]) rfl (by kernel_rfl) (by kernel_rfl) (by kernel_rfl) rfl rfl (fun _ _ _ h => h) hS3 (fun w hJ K hK => ?_) ?_
    · refine o_conv (r := ((x1.toNat : Nat) : Int)) rfl Try.underlying5 Try.underlying3 (by simp [IntKind.wrap_i64]; omega) ?_
      exact ⟨rfl, hK⟩
    refine d_take (i := 12) (v := (.int .i64 n)) (l' := #[true, true, true, true, true, true, true, true, true, true, true, true, true, false, false]) rfl (by kernel_rfl) (by kernel_rfl) (by kernel_rfl) rfl rfl (fun _ _ _ h => h) hS3 (fun w hJ K hK => ?_) ?_
    · refine o_move (v := (.int .i64 n)) rfl ?_
      exact ⟨rfl, hK⟩
    obtain ⟨r1, hr2, hr3⟩ := tmod_nat x1.toNat (m := n) (by omega)
    refine d_take (i := 13) (v := (.int .i64 ((r1 : Nat) : Int))) (l' := #[true, true, true, true, true, true, true, true, true, true, true, true, true, true, false]) rfl (by kernel_rfl) (by kernel_rfl) (by kernel_rfl) rfl rfl (fun _ _ _ h => h) hS3 (fun w hJ K hK => ?_) ?_
    · refine o_rem (r := ((r1 : Nat) : Int)) rfl rfl (by omega) hr2 ?_
      exact ⟨rfl, hK⟩
    refine d_take (i := 14) (v := (.int .i64 ((r1 : Nat) : Int))) (l' := #[true, true, true, true, true, true, true, true, true, true, true, true, true, true, true]) rfl (by kernel_rfl) (by kernel_rfl) (by kernel_rfl) rfl rfl (fun _ _ _ h => h) hS3 (fun w hJ K hK => ?_) ?_
    · refine o_assign (v := (.int .i64 ((r1 : Nat) : Int))) rfl ?_
      exact ⟨rfl, hK⟩
    refine d_done (by kernel_rfl) ?_
    refine then_n ?_
    refine wp_ret ?_
    refine ret1 rfl (show ev _ _ _ = (.int .i64 ((r1 : Nat) : Int)) from rfl) ?_
    exact ⟨r1, k + 1, rfl, by omega, by omega, by omega, by omega, hS3.done, _, l, hl, ⟨a, cap, rfl, h1, h2, hel⟩, by omega, hS3.get (i := 0) rfl⟩

def ids6 : List ByteArray := [⟨#[97, 110, 110]⟩, ⟨#[98, 111, 98]⟩, ⟨#[99, 97, 116]⟩, ⟨#[100, 97, 110]⟩, ⟨#[101, 118, 101]⟩, ⟨#[102, 97, 121]⟩]
theorem ids6_len : ids6.length = 6 := rfl

theorem c_Ids {σ : Hv} {w : World} (hV : View σ w) :
    Calls Try.prog 14 #[] w fun e w1 => ∃ v, e = .returned v ∧ Grow [] σ w σ w1 ∧ (vec v 9 1 6 (ids6.flatMap encTx)).ok w1 ∧ ∀ k, (vec v 9 1 6 (ids6.flatMap encTx)).foot = some k → w.heap.size ≤ k ∧ σ k = none := by
  refine enter Try.func14 rfl rfl rfl ?_
  have hS := St.start hV
  refine seq_reg ?_
  refine o_assign (v := (.slice none 0 0)) rfl ?_
  refine wpList_nil ?_
  refine then_n ?_
  refine seq_reg ?_
  refine o_bslice (cs := [(.string ⟨#[97, 110, 110]⟩), (.string ⟨#[98, 111, 98]⟩), (.string ⟨#[99, 97, 116]⟩), (.string ⟨#[100, 97, 110]⟩), (.string ⟨#[101, 118, 101]⟩), (.string ⟨#[102, 97, 121]⟩)]) (e := 9) hS (fun _ => by kernel_rfl) ?_
  intro b1 w1 hS1
  refine o_assign (v := (.slice (some ⟨b1, 0, none⟩) 6 6)) rfl ?_
  refine wpList_nil ?_
  refine then_n ?_
  refine wp_ret ?_
  refine ret1 rfl (show ev _ _ _ = (.slice (some ⟨b1, 0, none⟩) 6 6) from rfl) ?_
  have hS2 := hS1.asVec (i := 0) (ms' := [vec (.slice (some ⟨b1, 0, none⟩) 6 6) 9 1 6 ((ids6).flatMap encTx)]) (size := 1) rfl rfl (by unfold maxLen; omega) rfl
  exact ⟨(.slice (some ⟨b1, 0, none⟩) 6 6), rfl, hS2.done, hS2.own1 (i := 0) rfl⟩

theorem c_Id {σ : Hv} {w : World} (n : Nat) (hV : View σ w) :
    Calls Try.prog 13 #[(.int .i64 ((n : Nat) : Int))] w fun e w1 => ∃ s, e = .returned (.string s) ∧ s ∈ ids6 ∧ Grow [] σ w σ w1 := by
  refine enter Try.func13 rfl rfl rfl ?_
  have h6 := ids6_len
  have hS := St.start hV
  refine seq_reg ?_
  refine o_assign (v := (.string ⟨#[]⟩)) rfl ?_
  refine wpList_nil ?_
  refine then_n ?_
  refine seq_reg ?_
  refine o_call (args := []) rfl Try.call14 (Calls.mono (c_Ids hS.view) ?_)
  rintro _ w1 ⟨v1, rfl, hg1, ho1⟩
  refine ⟨_, rfl, ?_⟩
  have hS1 := hS.growAdd hg1 ho1
  refine o_move (v := (.int .i64 ((n : Nat) : Int))) rfl ?_
  refine o_call (args := []) rfl Try.call14 (Calls.mono (c_Ids hS1.view) ?_)
  rintro _ w2 ⟨v2, rfl, hg2, ho2⟩
  refine ⟨_, rfl, ?_⟩
  have hS2 := hS1.growAdd hg2 ho2
  refine o_len_vec hS2 rfl (i := 0) rfl Try.underlying29 ?_
  obtain ⟨r1, hr1, hr2⟩ := tmod_nat n (m := (6 : Int)) (by omega)
  refine o_rem (r := ((r1 : Nat) : Int)) rfl rfl (by omega) hr1 ?_
  obtain ⟨g1, cp1, rfl⟩ := vec_pos (hS2.get (i := 1) rfl) (by omega)
  refine o_iaddr_slice (k := r1) (a' := ⟨g1, r1, none⟩) rfl rfl (by omega) (by omega) Try.underlying29 Try.sizeOf9 (by simp [addr_lit]) ?_
  obtain ⟨x1, hx1⟩ := getq (l := ids6) (k := r1) (by omega)
  refine o_load (v := (.string x1)) rfl Try.isAgg9 (by have h := vec_cell encTx_len (j := 0) (hS2.get (i := 1) rfl) hx1 rfl; simpa using h) ?_
  refine o_assign (v := (.string x1)) rfl ?_
  refine wpList_nil ?_
  refine then_n ?_
  refine wp_ret ?_
  refine ret1 rfl (show ev _ _ _ = (.string x1) from rfl) ?_
  exact ⟨x1, rfl, List.mem_of_getElem? hx1, hS2.done⟩


end Go.Proofs.Ytehmnkholidanaa
