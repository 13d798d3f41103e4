/- A call does what its plain meaning says, and leaves the memory that was there as it was: draw_Mod, draw_New, draw_Codes_Left, draw_Codes_Next, law10_awake, law10_nodes, law10_edges. -/
import Derived.Test.YtegcjfidfinogaaRows
import Derived.Test.YtegcjfidfinogaaFlLift
import Derived.Test.YtegcjfidfinogaaPuC
import Derived.KernelRfl
import Derived.Test.YtegcjfidfinogaaLwB
namespace Go.Proofs.Ytegcjfidfinogaa
open Go Go.RowKit Go.Fl
set_option maxHeartbeats 2000000 in
theorem w_draw_Mod {σ : Hv} {w : World} (x_p : Int) (n_p : Int) {K : Int → Prop} (hV : View σ w) (hP : P_draw_Mod x_p n_p K) :
    Calls Try.prog 18 #[(.int .i64 x_p), (.int .i64 n_p)] w (fun e w1 => ∃ (r1 : Int), e = .returned (.int .i64 r1) ∧ Grow [] σ w σ w1 ∧ K r1) := by
 unfold P_draw_Mod at hP
 refine enter Try.func18 rfl rfl rfl ?_
 have hS := St.start hV
 refine seq_reg (o_assign (v := (.int .i64 (0 : Int))) rfl (wpList_nil (then_n (seq_reg (o_move (v := (.int .i64 x_p)) rfl (o_move (v := (.int .i64 n_p)) rfl ?_))))))
 obtain ⟨hi1, hP⟩ := hP
 refine o_rem (r := (x_p.tmod n_p)) rfl rfl hi1 rfl (o_assign (v := (.int .i64 (x_p.tmod n_p))) rfl (wpList_nil (then_n (wp_seq (seq_reg (o_move (v := (.int .i64 (x_p.tmod n_p))) rfl (o_lss (r := (decide ((x_p.tmod n_p) < (0 : Int)))) rfl rfl rfl (wpList_nil (then_n ?_)))))))))
 refine if_d ((x_p.tmod n_p) < (0 : Int)) rfl (fun ht1 => ?_) (fun ht1 => ?_)
 ·
  replace hP := hP.1 ht1
  refine one_reg (o_move (v := (.int .i64 (x_p.tmod n_p))) rfl (o_move (v := (.int .i64 n_p)) rfl ?_))
  obtain ⟨hi2, hP⟩ := hP
  refine o_add (r := ((x_p.tmod n_p) + n_p)) rfl rfl (nwi rfl hi2) (o_assign (v := (.int .i64 ((x_p.tmod n_p) + n_p))) rfl (wpList_nil (then_n (seq_reg (o_move (v := (.int .i64 ((x_p.tmod n_p) + n_p))) rfl (o_assign (v := (.int .i64 ((x_p.tmod n_p) + n_p))) rfl (wpList_nil (then_n (wp_ret (ret1 rfl (show ev _ _ _ = (.int .i64 ((x_p.tmod n_p) + n_p)) from rfl) ?_))))))))))
  exact ⟨((x_p.tmod n_p) + n_p), rfl, hS.done.forget, hP⟩
 ·
  replace hP := hP.2 ht1
  refine wp_skip (then_n (seq_reg (o_move (v := (.int .i64 (x_p.tmod n_p))) rfl (o_assign (v := (.int .i64 (x_p.tmod n_p))) rfl (wpList_nil (then_n (wp_ret (ret1 rfl (show ev _ _ _ = (.int .i64 (x_p.tmod n_p)) from rfl) ?_))))))))
  exact ⟨(x_p.tmod n_p), rfl, hS.done.forget, hP⟩

set_option maxHeartbeats 2000000 in
theorem w_draw_New {σ : Hv} {w : World} (list_p : (List UInt8)) (most_p : Int) (v1 : Value) {K : (List UInt8 × Int) → Prop} (hV : View σ w) (hr1 : RSl 1 RU8 σ v1 list_p) (hP : P_draw_New list_p most_p K) :
    Calls Try.prog 19 #[v1, (.int .i64 most_p)] w (fun e w1 => ∃ (r1 : (List UInt8 × Int)) (v2 : Value) (b1 : Nat) (σ1 : Hv), e = .returned (.pointer (some ⟨b1, 0, none⟩)) ∧ Grow [] σ w σ1 w1 ∧ RSl 1 RU8 σ1 v2 r1.1 ∧ ((blk b1 64 [v2, (.int .i64 r1.2)]).ok w1 ∧ ∀ k, (blk b1 64 [v2, (.int .i64 r1.2)]).foot = some k → w.heap.size ≤ k ∧ σ1 k = none) ∧ K r1) := by
 unfold P_draw_New at hP
 obtain ⟨a1, cap1, rfl⟩ := hr1.shape
 refine enter Try.func19 rfl rfl rfl ?_
 have hS := St.start hV
 refine seq_reg (o_assign (v := (.pointer none)) rfl (wpList_nil (then_n (wp_seq (seq_reg (o_move (v := (.slice a1 list_p.length cap1)) rfl (o_len_slice rfl Try.underlying22 ?_)))))))
 have hlen1 := RSl.len63 hr1
 replace hP := hP hlen1
 refine o_move (v := (.int .i64 most_p)) rfl (o_gtr (r := (decide (most_p < ((list_p.length : Nat) : Int)))) rfl rfl rfl (wpList_nil (then_n ?_)))
 refine if_d (most_p < ((list_p.length : Nat) : Int)) rfl (fun ht1 => ?_) (fun ht1 => ?_)
 ·
  replace hP := hP.1 ht1
  refine one_reg (o_move (v := (.slice a1 list_p.length cap1)) rfl (o_move (v := (.int .i64 most_p)) rfl ?_))
  obtain ⟨j1_, hj1, hP⟩ := hP
  obtain ⟨hle1, hP⟩ := hP
  have hcl1 := RSl.capLen hr1
  refine o_prefix (r := j1_) rfl Try.underlying22 Try.sizeOf5 (congrArg (Value.int .i64) hj1) (by omega) ?_
  have hn1 : (list_p.take j1_).length = j1_ := by simp only [List.length_take]; omega
  have hr3 := RSl.take hr1 j1_ hle1
  refine o_assign (v := (.slice a1 j1_ cap1)) rfl (wpList_nil (then_n (seq_reg (o_move (v := (.slice a1 j1_ cap1)) rfl (o_build (v := (.agg #[(.slice a1 j1_ cap1), (.int .i64 (0 : Int))])) (fun _ => by kernel_rfl) (o_box (cs := [(.slice a1 j1_ cap1), (.int .i64 (0 : Int))]) hS rfl rfl ?_))))))
  intro b2 w1 hS1
  refine o_assign (v := (.pointer (some ⟨b2, 0, none⟩))) rfl (wpList_nil (then_n (wp_ret (ret1 rfl (show ev _ _ _ = (.pointer (some ⟨b2, 0, none⟩)) from rfl) ?_))))
  exact ⟨((list_p.take j1_), (0 : Int)), (.slice a1 j1_ cap1), b2, σ, rfl, hS1.done, hr3, hS1.own1 (i := 0) rfl, hP⟩
 ·
  replace hP := hP.2 ht1
  refine wp_skip (then_n (seq_reg (o_move (v := (.slice a1 list_p.length cap1)) rfl (o_build (v := (.agg #[(.slice a1 list_p.length cap1), (.int .i64 (0 : Int))])) (fun _ => by kernel_rfl) (o_box (cs := [(.slice a1 list_p.length cap1), (.int .i64 (0 : Int))]) hS rfl rfl ?_)))))
  intro b3 w2 hS2
  refine o_assign (v := (.pointer (some ⟨b3, 0, none⟩))) rfl (wpList_nil (then_n (wp_ret (ret1 rfl (show ev _ _ _ = (.pointer (some ⟨b3, 0, none⟩)) from rfl) ?_))))
  exact ⟨(list_p, (0 : Int)), (.slice a1 list_p.length cap1), b3, σ, rfl, hS2.done, hr1, hS2.own1 (i := 0) rfl, hP⟩

set_option maxHeartbeats 2000000 in
theorem w_draw_Codes_Left {σ : Hv} {w : World} (c_p : (List UInt8 × Int)) (v1 : Value) (b1 : Nat) {K : Bool → Prop} (hV : View σ w) (hr1 : RSl 1 RU8 σ v1 c_p.1) (ho : (blk b1 64 [v1, (.int .i64 c_p.2)]).ok w) (hσ : σ b1 = none) (hP : P_draw_Codes_Left c_p K) :
    Calls Try.prog 20 #[(.pointer (some ⟨b1, 0, none⟩))] w (fun e w1 => ∃ (r1 : Bool) (v2 : Value) (σ1 : Hv), e = .returned (.bool (r1)) ∧ Grow [b1] σ w σ1 w1 ∧ RSl 1 RU8 σ1 v2 c_p.1 ∧ (blk b1 64 [v2, (.int .i64 c_p.2)]).ok w1 ∧ K r1) := by
 unfold P_draw_Codes_Left at hP
 obtain ⟨a1, cap1, rfl⟩ := hr1.shape
 refine enter Try.func20 rfl rfl rfl ?_
 have hS := St.start1 (o := blk b1 64 [(.slice a1 c_p.1.length cap1), (.int .i64 c_p.2)]) hV ho rfl hσ
 refine seq_reg (o_assign (v := (.bool false)) rfl (wpList_nil (then_n (wp_seq (dr (fun z => St ⟨w, σ, [b1]⟩ z σ [blk b1 64 [(.slice a1 c_p.1.length cap1), (.int .i64 c_p.2)]]) (by kernel_rfl) rfl ?_)))))
 have hS1 := hS.drew
 refine dt 0 1 (v := (.pointer (some ⟨b1, 0, none⟩))) (by kernel_rfl) rfl rfl (fun _ _ _ h => h) hS1 (fun _ _ _ hK => o_move (v := (.pointer (some ⟨b1, 0, none⟩))) rfl ⟨rfl, hK⟩) (dt 1 3 (v := (.pointer (some ⟨b1, 0, none⟩))) (by kernel_rfl) rfl rfl (fun _ _ _ h => h) hS1 (fun _ _ _ hK => o_nil rfl ⟨rfl, hK⟩) (dt 2 7 (v := (.pointer (some ⟨b1, 1, none⟩))) (by kernel_rfl) rfl rfl (fun _ _ _ h => h) hS1 (fun _ _ _ hK => o_faddr (a' := ⟨b1, 1, none⟩) rfl Try.underlying64 rfl Try.sizeOf3 rfl ⟨rfl, hK⟩) (dt 3 15 (v := (.int .i64 c_p.2)) (by kernel_rfl) rfl rfl (fun _ _ _ h => h) hS1 (fun _ hJ _ hK => o_load (v := (.int .i64 c_p.2)) rfl Try.isAgg3 (hJ.cell (i := 0) rfl rfl) ⟨rfl, hK⟩) (dt 4 31 (v := (.pointer (some ⟨b1, 0, none⟩))) (by kernel_rfl) rfl rfl (fun _ _ _ h => h) hS1 (fun _ _ _ hK => o_move (v := (.pointer (some ⟨b1, 0, none⟩))) rfl ⟨rfl, hK⟩) (dt 5 63 (v := (.pointer (some ⟨b1, 0, none⟩))) (by kernel_rfl) rfl rfl (fun _ _ _ h => h) hS1 (fun _ _ _ hK => o_nil rfl ⟨rfl, hK⟩) (dt 6 127 (v := (.pointer (some ⟨b1, 0, none⟩))) (by kernel_rfl) rfl rfl (fun _ _ _ h => h) hS1 (fun _ _ _ hK => o_faddr (a' := ⟨b1, 0, none⟩) rfl Try.underlying64 rfl Try.sizeOf22 rfl ⟨rfl, hK⟩) (dt 7 255 (v := (.slice a1 c_p.1.length cap1)) (by kernel_rfl) rfl rfl (fun _ _ _ h => h) hS1 (fun _ hJ _ hK => o_load (v := (.slice a1 c_p.1.length cap1)) rfl Try.isAgg22 (hJ.cell (i := 0) rfl rfl) ⟨rfl, hK⟩) ?_)))))))
 have hlen1 := RSl.len63 hr1
 replace hP := hP hlen1
 refine dt 8 511 (v := (.int .i64 ((c_p.1.length : Nat) : Int))) (by kernel_rfl) rfl rfl (fun _ _ _ h => h) hS1 (fun _ _ _ hK => o_len_slice rfl Try.underlying22 ⟨rfl, hK⟩) (dt 9 1023 (v := (.bool (decide (c_p.2 < ((c_p.1.length : Nat) : Int))))) (by kernel_rfl) rfl rfl (fun _ _ _ h => h) hS1 (fun _ _ _ hK => o_lss (r := (decide (c_p.2 < ((c_p.1.length : Nat) : Int)))) rfl rfl rfl ⟨rfl, hK⟩) (dt 10 2047 (v := (.bool (decide (c_p.2 < ((c_p.1.length : Nat) : Int))))) (by kernel_rfl) rfl rfl (fun _ _ _ h => h) hS1 (fun _ _ _ hK => o_assign (v := (.bool (decide (c_p.2 < ((c_p.1.length : Nat) : Int))))) rfl ⟨rfl, hK⟩) (dz (by kernel_rfl) (then_n (wp_ret (ret1 rfl (show ev _ _ _ = (.bool (decide (c_p.2 < ((c_p.1.length : Nat) : Int)))) from rfl) ?_))))))
 exact ⟨(decide (c_p.2 < ((c_p.1.length : Nat) : Int))), (.slice a1 c_p.1.length cap1), σ, rfl, hS1.done, hr1, hS1.get (i := 0) rfl, hP⟩

set_option maxHeartbeats 2000000 in
theorem w_draw_Codes_Next {σ : Hv} {w : World} (c_p : (List UInt8 × Int)) (n_p : Int) (v1 : Value) (b1 : Nat) {K : Int → (List UInt8 × Int) → Prop} (hV : View σ w) (hr1 : RSl 1 RU8 σ v1 c_p.1) (ho : (blk b1 64 [v1, (.int .i64 c_p.2)]).ok w) (hσ : σ b1 = none) (hP : P_draw_Codes_Next c_p n_p K) :
    Calls Try.prog 21 #[(.pointer (some ⟨b1, 0, none⟩)), (.int .i64 n_p)] w (fun e w1 => ∃ (r1 : Int) (q1 : (List UInt8 × Int)) (v2 : Value) (σ1 : Hv), e = .returned (.int .i64 r1) ∧ Grow [b1] σ w σ1 w1 ∧ RSl 1 RU8 σ1 v2 q1.1 ∧ (blk b1 64 [v2, (.int .i64 q1.2)]).ok w1 ∧ K r1 q1) := by
 unfold P_draw_Codes_Next at hP
 obtain ⟨a1, cap1, rfl⟩ := hr1.shape
 refine enter Try.func21 rfl rfl rfl ?_
 have hS := St.start1 (o := blk b1 64 [(.slice a1 c_p.1.length cap1), (.int .i64 c_p.2)]) hV ho rfl hσ
 refine seq_reg (o_assign (v := (.int .i64 (0 : Int))) rfl (wpList_nil (then_n (wp_seq (seq_reg (o_move (v := (.pointer (some ⟨b1, 0, none⟩))) rfl ?_))))))
 obtain ⟨Y1, hK1, hc1⟩ := hP
 refine o_call (args := [(.pointer (some ⟨b1, 0, none⟩))]) rfl Try.call20 (Calls.mono (w_draw_Codes_Left c_p (.slice a1 c_p.1.length cap1) b1 hS.view hr1 (hS.get (i := 0) rfl) (hS.off _ (List.mem_of_getElem? (i := 0) rfl) _ rfl) hc1) ?_)
 rintro _ w1 ⟨r1_, v3, σ1, rfl, hg1, hr3, ho1, hY1⟩
 refine ⟨_, rfl, ?_⟩
 have hS1 := hS.growM hg1 (i := 0) (o' := blk b1 64 [v3, (.int .i64 c_p.2)]) rfl rfl rfl ho1 (ms' := [blk b1 64 [v3, (.int .i64 c_p.2)]]) rfl
 replace hP := hK1 r1_ hY1
 obtain ⟨a2, cap2, rfl⟩ := hr3.shape
 refine o_not (r := (!r1_)) rfl rfl (wpList_nil (then_n ?_))
 refine if_nb rfl (fun ht1 => ?_) (fun ht1 => ?_)
 ·
  replace hP := hP.2 (by first | (rw [ht1]; exact Bool.false_ne_true) | simp [ht1])
  refine seq_reg (o_assign (v := (.int .i64 (0 : Int))) rfl (wpList_nil (then_n (wp_ret (then_r (ret1 rfl (show ev _ _ _ = (.int .i64 (0 : Int)) from rfl) ?_))))))
  exact ⟨(0 : Int), c_p, (.slice a2 c_p.1.length cap2), σ1, rfl, hS1.done, hr3, hS1.get (i := 0) rfl, hP⟩
 ·
  replace hP := hP.1 ht1
  refine wp_skip (then_n (seq_reg (o_move (v := (.pointer (some ⟨b1, 0, none⟩))) rfl (o_nil rfl (o_faddr (a' := ⟨b1, 1, none⟩) rfl Try.underlying64 rfl Try.sizeOf3 rfl (o_load (v := (.int .i64 c_p.2)) rfl Try.isAgg3 (hS1.cell (i := 0) rfl rfl) ?_))))))
  obtain ⟨hi1, hP⟩ := hP
  refine o_add (r := (c_p.2 + (1 : Int))) rfl rfl (nwi rfl hi1) (o_nil rfl (o_faddr (a' := ⟨b1, 1, none⟩) rfl Try.underlying64 rfl Try.sizeOf3 rfl (o_store (T := 64) (vs := [(.int .i64 (c_p.2 + (1 : Int)))]) (cs' := [(.slice a2 c_p.1.length cap2), (.int .i64 (c_p.2 + (1 : Int)))]) (ms' := [blk b1 64 [(.slice a2 c_p.1.length cap2), (.int .i64 (c_p.2 + (1 : Int)))]]) (i := 0) hS1 rfl rfl rfl Try.sizeOf3 rfl (ones rfl) rfl (Nat.le_of_ble_eq_true rfl) rfl rfl ?_)))
  intro w2 hS2
  refine wpList_nil (then_n (wp_seq (dr (fun z => St ⟨w, σ, [b1]⟩ z σ1 [blk b1 64 [(.slice a2 c_p.1.length cap2), (.int .i64 (c_p.2 + (1 : Int)))]]) (by kernel_rfl) rfl ?_)))
  have hS3 := hS2.drew
  refine dt 0 1 (v := (.pointer (some ⟨b1, 0, none⟩))) (by kernel_rfl) rfl rfl (fun _ _ _ h => h) hS3 (fun _ _ _ hK => o_move (v := (.pointer (some ⟨b1, 0, none⟩))) rfl ⟨rfl, hK⟩) (dt 1 3 (v := (.pointer (some ⟨b1, 0, none⟩))) (by kernel_rfl) rfl rfl (fun _ _ _ h => h) hS3 (fun _ _ _ hK => o_nil rfl ⟨rfl, hK⟩) (dt 2 7 (v := (.pointer (some ⟨b1, 0, none⟩))) (by kernel_rfl) rfl rfl (fun _ _ _ h => h) hS3 (fun _ _ _ hK => o_faddr (a' := ⟨b1, 0, none⟩) rfl Try.underlying64 rfl Try.sizeOf22 rfl ⟨rfl, hK⟩) (dt 3 15 (v := (.slice a2 c_p.1.length cap2)) (by kernel_rfl) rfl rfl (fun _ _ _ h => h) hS3 (fun _ hJ _ hK => o_load (v := (.slice a2 c_p.1.length cap2)) rfl Try.isAgg22 (hJ.cell (i := 0) rfl rfl) ⟨rfl, hK⟩) (dt 4 31 (v := (.pointer (some ⟨b1, 0, none⟩))) (by kernel_rfl) rfl rfl (fun _ _ _ h => h) hS3 (fun _ _ _ hK => o_move (v := (.pointer (some ⟨b1, 0, none⟩))) rfl ⟨rfl, hK⟩) (dt 5 63 (v := (.pointer (some ⟨b1, 0, none⟩))) (by kernel_rfl) rfl rfl (fun _ _ _ h => h) hS3 (fun _ _ _ hK => o_nil rfl ⟨rfl, hK⟩) (dt 6 127 (v := (.pointer (some ⟨b1, 1, none⟩))) (by kernel_rfl) rfl rfl (fun _ _ _ h => h) hS3 (fun _ _ _ hK => o_faddr (a' := ⟨b1, 1, none⟩) rfl Try.underlying64 rfl Try.sizeOf3 rfl ⟨rfl, hK⟩) (dt 7 255 (v := (.int .i64 (c_p.2 + (1 : Int)))) (by kernel_rfl) rfl rfl (fun _ _ _ h => h) hS3 (fun _ hJ _ hK => o_load (v := (.int .i64 (c_p.2 + (1 : Int)))) rfl Try.isAgg3 (hJ.cell (i := 0) rfl rfl) ⟨rfl, hK⟩) ?_)))))))
  obtain ⟨hi2, hP⟩ := hP
  refine dt 8 511 (v := (.int .i64 ((c_p.2 + (1 : Int)) - (1 : Int)))) (by kernel_rfl) rfl rfl (fun _ _ _ h => h) hS3 (fun _ _ _ hK => o_sub (r := ((c_p.2 + (1 : Int)) - (1 : Int))) rfl rfl (nwi rfl hi2) ⟨rfl, hK⟩) ?_
  obtain ⟨j1_, hj1, hP⟩ := hP
  obtain ⟨x1_, hx1, hP⟩ := hP
  obtain ⟨ad1, cs1, ha1, hl1, hr4, hR1, hlt1⟩ := RSl.at hr3 hx1
  cases hR1
  have hlt2 := x1_.toNat_lt
  refine dt 9 1023 (v := (.pointer (some (ad1.add (j1_ * 1))))) (by kernel_rfl) rfl rfl (fun _ _ _ h => h) hS3 (fun _ _ _ hK => o_iaddr_slice (k := j1_) (a' := (ad1.add (j1_ * 1))) (congrArg (fun z => Value.slice z _ _) ha1) rfl hj1 hlt1 Try.underlying22 Try.sizeOf5 rfl ⟨rfl, hK⟩) (dt 10 2047 (v := (.int .u8 ((x1_.toNat : Nat) : Int))) (by kernel_rfl) rfl rfl (fun _ _ _ h => h) hS3 (fun _ hJ _ hK => o_load (v := (.int .u8 ((x1_.toNat : Nat) : Int))) rfl Try.isAgg5 (hr4.cell hJ.view 0 rfl rfl) ⟨rfl, hK⟩) (dt 11 4095 (v := (.int .i64 ((x1_.toNat : Nat) : Int))) (by kernel_rfl) rfl rfl (fun _ _ _ h => h) hS3 (fun _ _ _ hK => o_conv (r := ((x1_.toNat : Nat) : Int)) rfl Try.underlying5 Try.underlying3 (by simp [IntKind.wrap_i64]; omega) ⟨rfl, hK⟩) (dt 12 8191 (v := (.int .i64 n_p)) (by kernel_rfl) rfl rfl (fun _ _ _ h => h) hS3 (fun _ _ _ hK => o_move (v := (.int .i64 n_p)) rfl ⟨rfl, hK⟩) ?_)))
  obtain ⟨hi3, hP⟩ := hP
  refine dt 13 16383 (v := (.int .i64 (((x1_.toNat : Nat) : Int).tmod n_p))) (by kernel_rfl) rfl rfl (fun _ _ _ h => h) hS3 (fun _ _ _ hK => o_rem (r := (((x1_.toNat : Nat) : Int).tmod n_p)) rfl rfl hi3 rfl ⟨rfl, hK⟩) (dt 14 32767 (v := (.int .i64 (((x1_.toNat : Nat) : Int).tmod n_p))) (by kernel_rfl) rfl rfl (fun _ _ _ h => h) hS3 (fun _ _ _ hK => o_assign (v := (.int .i64 (((x1_.toNat : Nat) : Int).tmod n_p))) rfl ⟨rfl, hK⟩) (dz (by kernel_rfl) (then_n (wp_ret (ret1 rfl (show ev _ _ _ = (.int .i64 (((x1_.toNat : Nat) : Int).tmod n_p)) from rfl) ?_)))))
  exact ⟨(((x1_.toNat : Nat) : Int).tmod n_p), (c_p.1, (c_p.2 + (1 : Int))), (.slice a2 c_p.1.length cap2), σ1, rfl, hS3.done, hr3, hS3.get (i := 0) rfl, hP⟩

set_option maxHeartbeats 2000000 in
theorem w_law10_awake {σ : Hv} {w : World} {K : Bool → Prop} (hV : View σ w) (hP : P_law10_awake  K) :
    Calls Try.prog 7 #[] w (fun e w1 => ∃ (r1 : Bool), e = .returned (.bool (r1)) ∧ Grow [] σ w σ w1 ∧ K r1) := by
 unfold P_law10_awake at hP
 refine enter Try.func7 rfl rfl rfl ?_
 have hS := St.start hV
 refine seq_reg (o_assign (v := (.bool false)) rfl (wpList_nil (then_n (seq_reg (o_bslice (cs := [(.string (⟨#[97]⟩ : ByteArray)), (.string (⟨#[98]⟩ : ByteArray)), (.string (⟨#[99]⟩ : ByteArray))]) (e := 9) hS (fun _ => by kernel_rfl) ?_)))))
 intro b1 w1 hS1
 refine o_build (v := (.agg #[(.string (⟨#[97]⟩ : ByteArray)), (.string (⟨#[99]⟩ : ByteArray))])) (fun _ => by kernel_rfl) (o_build (v := (.agg #[(.string (⟨#[98]⟩ : ByteArray)), (.string (⟨#[97]⟩ : ByteArray))])) (fun _ => by kernel_rfl) (o_bslice (cs := [(.string (⟨#[97]⟩ : ByteArray)), (.string (⟨#[99]⟩ : ByteArray)), (.string (⟨#[98]⟩ : ByteArray)), (.string (⟨#[97]⟩ : ByteArray))]) (e := 40) hS1 (fun _ => by kernel_rfl) ?_))
 intro b2 w2 hS2
 have hS3 := hS2.asVec (i := 1) (ms' := [blk b2 40 ([(.string (⟨#[97]⟩ : ByteArray)), (.string (⟨#[99]⟩ : ByteArray)), (.string (⟨#[98]⟩ : ByteArray)), (.string (⟨#[97]⟩ : ByteArray))]), vec (.slice (some ⟨b1, 0, none⟩) 3 3) 9 1 3 (([(⟨#[97]⟩ : ByteArray), (⟨#[98]⟩ : ByteArray), (⟨#[99]⟩ : ByteArray)]).flatMap encTx)]) (size := 1) rfl rfl (by unfold maxLen; omega) rfl
 obtain ⟨σ1, hS4, hsub1, hr1⟩ := hS3.peek (i := 1) rfl (notin0 _) encTx_len (by simp [Sml])
 have hS5 := hS4.asVec (i := 0) (ms' := [vec (.slice (some ⟨b2, 0, none⟩) 2 2) 40 2 2 (([((⟨#[97]⟩ : ByteArray), (⟨#[99]⟩ : ByteArray)), ((⟨#[98]⟩ : ByteArray), (⟨#[97]⟩ : ByteArray))]).flatMap encEd)]) (size := 2) rfl rfl (by unfold maxLen; omega) rfl
 obtain ⟨σ2, hS6, hsub2, hr2⟩ := hS5.peek (i := 0) rfl (notin0 _) encEd_len (by simp [Sml])
 obtain ⟨Y1, hK1, hc1⟩ := hP
 refine o_call (args := [(.slice (some ⟨b1, 0, none⟩) 3 3), (.slice (some ⟨b2, 0, none⟩) 2 2)]) rfl Try.call10 (Calls.mono (w_graph_Order ([(⟨#[97]⟩ : ByteArray), (⟨#[98]⟩ : ByteArray), (⟨#[99]⟩ : ByteArray)]) ([((⟨#[97]⟩ : ByteArray), (⟨#[99]⟩ : ByteArray)), ((⟨#[98]⟩ : ByteArray), (⟨#[97]⟩ : ByteArray))]) (.slice (some ⟨b1, 0, none⟩) 3 3) (.slice (some ⟨b2, 0, none⟩) 2 2) hS6.view (RSl.menc hsub2 hr1) hr2 hc1) ?_)
 rintro _ w3 ⟨r1_, r2_, v1, rfl, hg1, hl1, ho1, hY1⟩
 refine ⟨_, rfl, ?_⟩
 have hg1b := hg1.back (Sub.trans hsub1 hsub2)
 have hS7 := hS2.growAdd hg1b (o := vec v1 9 1 r1_.length ((r1_).flatMap encTx)) (fresh_back ho1 (Sub.trans hsub1 hsub2))
 replace hP := hK1 r1_ r2_ hY1
 refine o_move (v := (.tuple #[v1, (.int .i64 r2_)])) rfl (o_extract (v := v1) rfl rfl (o_extract (v := (.int .i64 r2_)) rfl rfl (o_assign (v := v1) rfl (o_assign (v := (.int .i64 r2_)) rfl (wpList_nil (then_n (seq_reg (o_move (v := (.int .i64 r2_)) rfl (o_eql (r := (decide (r2_ = (0 : Int)))) rfl rfl rfl ?_)))))))))
 by_cases hb1 : r2_ = (0 : Int)
 ·
  replace hP := hP.1 hb1
  refine o_move (v := (.bool true)) (congrArg Value.bool (decide_eq_true hb1)) (o_on rfl rfl (o_move (v := v1) rfl (o_on rfl rfl (o_bslice (cs := [(.string (⟨#[99]⟩ : ByteArray)), (.string (⟨#[97]⟩ : ByteArray)), (.string (⟨#[98]⟩ : ByteArray))]) (e := 9) hS7 (fun _ => by kernel_rfl) ?_))))
  intro b3 w4 hS8
  refine o_on rfl rfl ?_
  obtain ⟨σ3, hS9, hsub3, hr4⟩ := hS8.peek (i := 1) rfl (notin0 _) encTx_len hl1
  have hS10 := hS9.asVec (i := 0) (ms' := [vec (.slice (some ⟨b3, 0, none⟩) 3 3) 9 1 3 (([(⟨#[99]⟩ : ByteArray), (⟨#[97]⟩ : ByteArray), (⟨#[98]⟩ : ByteArray)]).flatMap encTx), blk b2 40 ([(.string (⟨#[97]⟩ : ByteArray)), (.string (⟨#[99]⟩ : ByteArray)), (.string (⟨#[98]⟩ : ByteArray)), (.string (⟨#[97]⟩ : ByteArray))]), blk b1 9 ([(.string (⟨#[97]⟩ : ByteArray)), (.string (⟨#[98]⟩ : ByteArray)), (.string (⟨#[99]⟩ : ByteArray))])]) (size := 1) rfl rfl (by unfold maxLen; omega) rfl
  obtain ⟨σ4, hS11, hsub4, hr5⟩ := hS10.peek (i := 0) rfl (notin0 _) encTx_len (by simp [Sml])
  obtain ⟨Y2, hK2, hc2⟩ := hP
  refine o_call (args := [v1, (.slice (some ⟨b3, 0, none⟩) 3 3)]) rfl Try.call12 (Calls.mono (w_ref1_Same r1_ ([(⟨#[99]⟩ : ByteArray), (⟨#[97]⟩ : ByteArray), (⟨#[98]⟩ : ByteArray)]) v1 (.slice (some ⟨b3, 0, none⟩) 3 3) hS11.view (RSl.menc hsub4 hr4) hr5 hc2) ?_)
  rintro _ w5 ⟨r3_, rfl, hg2, hY2⟩
  refine ⟨_, rfl, ?_⟩
  have hg2b := hg2.back (Sub.trans hsub3 hsub4)
  have hS12 := hS8.grow hg2b
  replace hP := hK2 r3_ hY2
  refine o_pick_t (v := (.bool (r3_))) rfl rfl (o_assign (v := (.bool (r3_))) rfl (wpList_nil (then_n (wp_ret (ret1 rfl (show ev _ _ _ = (.bool (r3_)) from rfl) ?_)))))
  exact ⟨(r3_), rfl, hS12.done.forget, hP⟩
 ·
  replace hP := hP.2 hb1
  refine o_move (v := (.bool false)) (congrArg Value.bool (decide_eq_false hb1)) (o_off rfl rfl (o_off rfl rfl (o_off rfl rfl (o_pick_f (v := (.bool false)) rfl rfl (o_assign (v := (.bool false)) rfl (wpList_nil (then_n (wp_ret (ret1 rfl (show ev _ _ _ = (.bool false) from rfl) ?_)))))))))
  exact ⟨false, rfl, hS7.done.forget, hP⟩

set_option maxHeartbeats 2000000 in
theorem w_law10_nodes {σ : Hv} {w : World} (n_p : Int) (turn_p : Int) {K : (List ByteArray) → Prop} (hV : View σ w) (hP : P_law10_nodes n_p turn_p K) :
    Calls Try.prog 8 #[(.int .i64 n_p), (.int .i64 turn_p)] w (fun e w1 => ∃ (r1 : (List ByteArray)) (v1 : Value), e = .returned v1 ∧ Grow [] σ w σ w1 ∧ Sml r1.length ∧ ((vec v1 9 1 r1.length ((r1).flatMap encTx)).ok w1 ∧ ∀ k, (vec v1 9 1 r1.length ((r1).flatMap encTx)).foot = some k → w.heap.size ≤ k ∧ σ k = none) ∧ K r1) := by
 unfold P_law10_nodes at hP
 refine enter Try.func8 rfl rfl rfl ?_
 have hS := St.start hV
 refine seq_reg (o_assign (v := (.slice none 0 0)) rfl (wpList_nil (then_n (seq_reg (o_bslice (cs := [(.string (⟨#[100]⟩ : ByteArray)), (.string (⟨#[97]⟩ : ByteArray)), (.string (⟨#[102]⟩ : ByteArray)), (.string (⟨#[98]⟩ : ByteArray)), (.string (⟨#[101]⟩ : ByteArray)), (.string (⟨#[99]⟩ : ByteArray)), (.string (⟨#[103]⟩ : ByteArray)), (.string (⟨#[]⟩ : ByteArray))]) (e := 9) hS (fun _ => by kernel_rfl) ?_)))))
 intro b1 w1 hS1
 refine o_assign (v := (.slice (some ⟨b1, 0, none⟩) 8 8)) rfl (wpList_nil (then_n (seq_reg (o_move (v := (.slice (some ⟨b1, 0, none⟩) 8 8)) rfl (o_move (v := (.int .i64 n_p)) rfl (o_move (v := (.slice (some ⟨b1, 0, none⟩) 8 8)) rfl ?_))))))
 have hS2 := hS1.asVec (i := 0) (ms' := [vec (.slice (some ⟨b1, 0, none⟩) 8 8) 9 1 8 (([(⟨#[100]⟩ : ByteArray), (⟨#[97]⟩ : ByteArray), (⟨#[102]⟩ : ByteArray), (⟨#[98]⟩ : ByteArray), (⟨#[101]⟩ : ByteArray), (⟨#[99]⟩ : ByteArray), (⟨#[103]⟩ : ByteArray), (⟨#[]⟩ : ByteArray)]).flatMap encTx)]) (size := 1) rfl rfl (by unfold maxLen; omega) rfl
 refine o_len_vec hS2 rfl (i := 0) rfl Try.underlying23 (o_add (r := (9 : Int)) rfl rfl (nw (by omega) (by omega) (by omega)) ?_)
 obtain ⟨Y1, hK1, hc1⟩ := hP
 refine o_call (args := [(.int .i64 n_p), (.int .i64 (9 : Int))]) rfl Try.call18 (Calls.mono (w_draw_Mod n_p (9 : Int) hS2.view hc1) ?_)
 rintro _ w2 ⟨r1_, rfl, hg1, hY1⟩
 refine ⟨_, rfl, ?_⟩
 have hS3 := hS2.grow hg1
 replace hP := hK1 r1_ hY1
 obtain ⟨σ1, hS4, hsub1, hr2⟩ := hS3.peek (i := 0) rfl (notin0 _) encTx_len (by simp [Sml])
 obtain ⟨j1_, hj1, hP⟩ := hP
 obtain ⟨hle1, hP⟩ := hP
 have hcl1 := RSl.capLen hr2
 refine o_prefix (r := j1_) rfl Try.underlying23 Try.sizeOf9 (congrArg (Value.int .i64) hj1) (by omega) ?_
 have hn1 : (([(⟨#[100]⟩ : ByteArray), (⟨#[97]⟩ : ByteArray), (⟨#[102]⟩ : ByteArray), (⟨#[98]⟩ : ByteArray), (⟨#[101]⟩ : ByteArray), (⟨#[99]⟩ : ByteArray), (⟨#[103]⟩ : ByteArray), (⟨#[]⟩ : ByteArray)]).take j1_).length = j1_ := by simp only [List.length_take]; omega
 have hr3 := RSl.take hr2 j1_ hle1
 refine o_assign (v := (.slice (some ⟨b1, 0, none⟩) j1_ 8)) rfl (wpList_nil (then_n (wp_seq (seq_reg (o_move (v := (.slice (some ⟨b1, 0, none⟩) j1_ 8)) rfl (o_len_slice rfl Try.underlying23 ?_))))))
 have hlen2 : j1_ ≤ 9223372036854775807 := by have := RSl.len63 hr3; omega
 replace hP := hP hlen2
 refine o_eql (r := (decide (((j1_ : Nat) : Int) = (0 : Int)))) rfl rfl rfl (wpList_nil (then_n ?_))
 refine if_d (((j1_ : Nat) : Int) = (0 : Int)) rfl (fun ht1 => ?_) (fun ht1 => ?_)
 ·
  replace hP := hP.1 ht1
  refine seq_reg (o_assign (v := (.slice none 0 0)) rfl (wpList_nil (then_n (wp_ret (then_r (ret1 rfl (show ev _ _ _ = (.slice none 0 0) from rfl) ?_))))))
  have hS5 := hS4.addNil 9 1
  exact ⟨[], (.slice none 0 0), rfl, hS5.done.forget, (by simp [Sml]), hS5.own0 (i := 0) rfl, hP⟩
 ·
  replace hP := hP.2 ht1
  refine wp_skip (then_n (seq_reg (o_move (v := (.int .i64 turn_p)) rfl (o_move (v := (.slice (some ⟨b1, 0, none⟩) j1_ 8)) rfl (o_len_slice rfl Try.underlying23 ?_)))))
  obtain ⟨Y2, hK2, hc2⟩ := hP
  refine o_call (args := [(.int .i64 turn_p), (.int .i64 ((j1_ : Nat) : Int))]) rfl Try.call18 (Calls.mono (w_draw_Mod turn_p ((j1_ : Nat) : Int) hS4.view hc2) ?_)
  rintro _ w3 ⟨r2_, rfl, hg2, hY2⟩
  refine ⟨_, rfl, ?_⟩
  have hS6 := hS4.grow hg2
  replace hP := hK2 r2_ hY2
  refine o_assign (v := (.int .i64 r2_)) rfl (wpList_nil (then_n (wp_seq (dr (fun z => St ⟨w, σ, []⟩ z σ1 []) (by kernel_rfl) rfl ?_))))
  have hS7 := hS6.drew
  refine dt 0 1 (v := (.slice (some ⟨b1, 0, none⟩) j1_ 8)) (by kernel_rfl) rfl rfl (fun _ _ _ h => h) hS7 (fun _ _ _ hK => o_move (v := (.slice (some ⟨b1, 0, none⟩) j1_ 8)) rfl ⟨rfl, hK⟩) (dt 1 3 (v := (.int .i64 r2_)) (by kernel_rfl) rfl rfl (fun _ _ _ h => h) hS7 (fun _ _ _ hK => o_move (v := (.int .i64 r2_)) rfl ⟨rfl, hK⟩) ?_)
  obtain ⟨j2_, hj2, hP⟩ := hP
  obtain ⟨hle2, hP⟩ := hP
  have hcl2 := RSl.capLen hr3
  have hr4 := RSl.drop hr3 j2_ hle2
  refine dt 2 7 (v := (.slice (if 8 = j2_ then ((some ⟨b1, 0, none⟩) : Option Addr) else ((some ⟨b1, 0, none⟩) : Option Addr).map (·.add (j2_ * 1))) (j1_ - j2_) (8 - j2_))) (by kernel_rfl) rfl rfl (fun _ _ _ h => h) hS7 (fun _ _ _ hK => o_slice (l := j2_) (r := j1_) (v := (.slice (if 8 = j2_ then ((some ⟨b1, 0, none⟩) : Option Addr) else ((some ⟨b1, 0, none⟩) : Option Addr).map (·.add (j2_ * 1))) (j1_ - j2_) (8 - j2_))) rfl Try.underlying23 Try.sizeOf9 (.inr ⟨_, rfl, (congrArg (Value.int .i64) hj2)⟩) (.inl ⟨rfl, rfl⟩) (by omega) (by omega) rfl ⟨rfl, hK⟩) (dt 4 23 (v := (.slice (some ⟨b1, 0, none⟩) j1_ 8)) (by kernel_rfl) rfl rfl (fun _ _ _ h => h) hS7 (fun _ _ _ hK => o_move (v := (.slice (some ⟨b1, 0, none⟩) j1_ 8)) rfl ⟨rfl, hK⟩) (dt 5 55 (v := (.int .i64 r2_)) (by kernel_rfl) rfl rfl (fun _ _ _ h => h) hS7 (fun _ _ _ hK => o_move (v := (.int .i64 r2_)) rfl ⟨rfl, hK⟩) ?_))
  obtain ⟨j3_, hj3, hP⟩ := hP
  obtain ⟨hle3, hP⟩ := hP
  have hcl3 := RSl.capLen hr3
  have hn2 : ((([(⟨#[100]⟩ : ByteArray), (⟨#[97]⟩ : ByteArray), (⟨#[102]⟩ : ByteArray), (⟨#[98]⟩ : ByteArray), (⟨#[101]⟩ : ByteArray), (⟨#[99]⟩ : ByteArray), (⟨#[103]⟩ : ByteArray), (⟨#[]⟩ : ByteArray)]).take j1_).take j3_).length = j3_ := by simp only [List.length_take]; omega
  have hr5 := RSl.take hr3 j3_ hle3
  refine dt 6 119 (v := (.slice (some ⟨b1, 0, none⟩) j3_ 8)) (by kernel_rfl) rfl rfl (fun _ _ _ h => h) hS7 (fun _ _ _ hK => o_prefix (r := j3_) rfl Try.underlying23 Try.sizeOf9 (congrArg (Value.int .i64) hj3) (by omega) ⟨rfl, hK⟩) (d1 3 127 (by kernel_rfl) rfl ?_)
  have hS8 := hS7.addNil 9 1
  obtain ⟨hsm1, hP⟩ := hP
  refine o_appR (enc := encTx) (l := ((([(⟨#[100]⟩ : ByteArray), (⟨#[97]⟩ : ByteArray), (⟨#[102]⟩ : ByteArray), (⟨#[98]⟩ : ByteArray), (⟨#[101]⟩ : ByteArray), (⟨#[99]⟩ : ByteArray), (⟨#[103]⟩ : ByteArray), (⟨#[]⟩ : ByteArray)]).take j1_).drop j2_)) (Ms := fun v2 => [vec v2 9 1 (((([(⟨#[100]⟩ : ByteArray), (⟨#[97]⟩ : ByteArray), (⟨#[102]⟩ : ByteArray), (⟨#[98]⟩ : ByteArray), (⟨#[101]⟩ : ByteArray), (⟨#[99]⟩ : ByteArray), (⟨#[103]⟩ : ByteArray), (⟨#[]⟩ : ByteArray)]).take j1_).drop j2_).length) ((((([(⟨#[100]⟩ : ByteArray), (⟨#[97]⟩ : ByteArray), (⟨#[102]⟩ : ByteArray), (⟨#[98]⟩ : ByteArray), (⟨#[101]⟩ : ByteArray), (⟨#[99]⟩ : ByteArray), (⟨#[103]⟩ : ByteArray), (⟨#[]⟩ : ByteArray)]).take j1_).drop j2_)).flatMap encTx)]) (k' := ((([(⟨#[100]⟩ : ByteArray), (⟨#[97]⟩ : ByteArray), (⟨#[102]⟩ : ByteArray), (⟨#[98]⟩ : ByteArray), (⟨#[101]⟩ : ByteArray), (⟨#[99]⟩ : ByteArray), (⟨#[103]⟩ : ByteArray), (⟨#[]⟩ : ByteArray)]).take j1_).drop j2_).length) (xs' := (((([(⟨#[100]⟩ : ByteArray), (⟨#[97]⟩ : ByteArray), (⟨#[102]⟩ : ByteArray), (⟨#[98]⟩ : ByteArray), (⟨#[101]⟩ : ByteArray), (⟨#[99]⟩ : ByteArray), (⟨#[103]⟩ : ByteArray), (⟨#[]⟩ : ByteArray)]).take j1_).drop j2_)).flatMap encTx) Try.underlying23 Try.type9 rfl rfl (bytes := 16) rfl rfl (Nat.succ_pos _) hS8 rfl (q := 0) rfl rfl hr4 hS8.view encTx_len encTx_one hsm1 (by omega) (by first | rfl | exact List.length_append.symm | simp) (List.nil_append _) (fun _ => rfl) ?_
  intro v2 w4 ho1 hS9
  refine wpList_nil ?_
  refine ⟨rfl, (hS9.sublist (List.nil_sublist _)), ?_⟩
  refine d1 7 255 (by kernel_rfl) rfl ?_
  obtain ⟨hsm2, hP⟩ := hP
  refine o_appR (enc := encTx) (l := ((([(⟨#[100]⟩ : ByteArray), (⟨#[97]⟩ : ByteArray), (⟨#[102]⟩ : ByteArray), (⟨#[98]⟩ : ByteArray), (⟨#[101]⟩ : ByteArray), (⟨#[99]⟩ : ByteArray), (⟨#[103]⟩ : ByteArray), (⟨#[]⟩ : ByteArray)]).take j1_).take j3_)) (Ms := fun v3 => [vec v3 9 1 ((((([(⟨#[100]⟩ : ByteArray), (⟨#[97]⟩ : ByteArray), (⟨#[102]⟩ : ByteArray), (⟨#[98]⟩ : ByteArray), (⟨#[101]⟩ : ByteArray), (⟨#[99]⟩ : ByteArray), (⟨#[103]⟩ : ByteArray), (⟨#[]⟩ : ByteArray)]).take j1_).drop j2_) ++ ((([(⟨#[100]⟩ : ByteArray), (⟨#[97]⟩ : ByteArray), (⟨#[102]⟩ : ByteArray), (⟨#[98]⟩ : ByteArray), (⟨#[101]⟩ : ByteArray), (⟨#[99]⟩ : ByteArray), (⟨#[103]⟩ : ByteArray), (⟨#[]⟩ : ByteArray)]).take j1_).take j3_)).length) ((((([(⟨#[100]⟩ : ByteArray), (⟨#[97]⟩ : ByteArray), (⟨#[102]⟩ : ByteArray), (⟨#[98]⟩ : ByteArray), (⟨#[101]⟩ : ByteArray), (⟨#[99]⟩ : ByteArray), (⟨#[103]⟩ : ByteArray), (⟨#[]⟩ : ByteArray)]).take j1_).drop j2_) ++ ((([(⟨#[100]⟩ : ByteArray), (⟨#[97]⟩ : ByteArray), (⟨#[102]⟩ : ByteArray), (⟨#[98]⟩ : ByteArray), (⟨#[101]⟩ : ByteArray), (⟨#[99]⟩ : ByteArray), (⟨#[103]⟩ : ByteArray), (⟨#[]⟩ : ByteArray)]).take j1_).take j3_)).flatMap encTx)]) (k' := (((([(⟨#[100]⟩ : ByteArray), (⟨#[97]⟩ : ByteArray), (⟨#[102]⟩ : ByteArray), (⟨#[98]⟩ : ByteArray), (⟨#[101]⟩ : ByteArray), (⟨#[99]⟩ : ByteArray), (⟨#[103]⟩ : ByteArray), (⟨#[]⟩ : ByteArray)]).take j1_).drop j2_) ++ ((([(⟨#[100]⟩ : ByteArray), (⟨#[97]⟩ : ByteArray), (⟨#[102]⟩ : ByteArray), (⟨#[98]⟩ : ByteArray), (⟨#[101]⟩ : ByteArray), (⟨#[99]⟩ : ByteArray), (⟨#[103]⟩ : ByteArray), (⟨#[]⟩ : ByteArray)]).take j1_).take j3_)).length) (xs' := (((([(⟨#[100]⟩ : ByteArray), (⟨#[97]⟩ : ByteArray), (⟨#[102]⟩ : ByteArray), (⟨#[98]⟩ : ByteArray), (⟨#[101]⟩ : ByteArray), (⟨#[99]⟩ : ByteArray), (⟨#[103]⟩ : ByteArray), (⟨#[]⟩ : ByteArray)]).take j1_).drop j2_) ++ ((([(⟨#[100]⟩ : ByteArray), (⟨#[97]⟩ : ByteArray), (⟨#[102]⟩ : ByteArray), (⟨#[98]⟩ : ByteArray), (⟨#[101]⟩ : ByteArray), (⟨#[99]⟩ : ByteArray), (⟨#[103]⟩ : ByteArray), (⟨#[]⟩ : ByteArray)]).take j1_).take j3_)).flatMap encTx) Try.underlying23 Try.type9 rfl rfl (bytes := 16) rfl rfl (Nat.succ_pos _) hS9 rfl (q := 0) rfl rfl hr5 hS9.view encTx_len encTx_one hsm2 (by omega) (by first | rfl | exact List.length_append.symm | simp) (List.flatMap_append).symm (fun _ => rfl) ?_
  intro v3 w5 ho2 hS10
  refine wpList_nil ?_
  refine ⟨rfl, (hS10.sublist (List.nil_sublist _)), wpJ_weak (J' := fun z => St ⟨w, σ, []⟩ z σ1 [vec v3 9 1 ((((([(⟨#[100]⟩ : ByteArray), (⟨#[97]⟩ : ByteArray), (⟨#[102]⟩ : ByteArray), (⟨#[98]⟩ : ByteArray), (⟨#[101]⟩ : ByteArray), (⟨#[99]⟩ : ByteArray), (⟨#[103]⟩ : ByteArray), (⟨#[]⟩ : ByteArray)]).take j1_).drop j2_) ++ ((([(⟨#[100]⟩ : ByteArray), (⟨#[97]⟩ : ByteArray), (⟨#[102]⟩ : ByteArray), (⟨#[98]⟩ : ByteArray), (⟨#[101]⟩ : ByteArray), (⟨#[99]⟩ : ByteArray), (⟨#[103]⟩ : ByteArray), (⟨#[]⟩ : ByteArray)]).take j1_).take j3_)).length) ((((([(⟨#[100]⟩ : ByteArray), (⟨#[97]⟩ : ByteArray), (⟨#[102]⟩ : ByteArray), (⟨#[98]⟩ : ByteArray), (⟨#[101]⟩ : ByteArray), (⟨#[99]⟩ : ByteArray), (⟨#[103]⟩ : ByteArray), (⟨#[]⟩ : ByteArray)]).take j1_).drop j2_) ++ ((([(⟨#[100]⟩ : ByteArray), (⟨#[97]⟩ : ByteArray), (⟨#[102]⟩ : ByteArray), (⟨#[98]⟩ : ByteArray), (⟨#[101]⟩ : ByteArray), (⟨#[99]⟩ : ByteArray), (⟨#[103]⟩ : ByteArray), (⟨#[]⟩ : ByteArray)]).take j1_).take j3_)).flatMap encTx)]) (fun w h => h.sublist (List.nil_sublist _)) _ _ _ _ ?_⟩
  refine dt 8 511 (v := v3) (by kernel_rfl) rfl rfl (fun _ _ _ h => h) hS10 (fun _ _ _ hK => o_assign (v := v3) rfl ⟨rfl, hK⟩) (dz (by kernel_rfl) (then_n (wp_ret (ret1 rfl (show ev _ _ _ = v3 from rfl) ?_))))
  exact ⟨((([(⟨#[100]⟩ : ByteArray), (⟨#[97]⟩ : ByteArray), (⟨#[102]⟩ : ByteArray), (⟨#[98]⟩ : ByteArray), (⟨#[101]⟩ : ByteArray), (⟨#[99]⟩ : ByteArray), (⟨#[103]⟩ : ByteArray), (⟨#[]⟩ : ByteArray)]).take j1_).drop j2_) ++ ((([(⟨#[100]⟩ : ByteArray), (⟨#[97]⟩ : ByteArray), (⟨#[102]⟩ : ByteArray), (⟨#[98]⟩ : ByteArray), (⟨#[101]⟩ : ByteArray), (⟨#[99]⟩ : ByteArray), (⟨#[103]⟩ : ByteArray), (⟨#[]⟩ : ByteArray)]).take j1_).take j3_), v3, rfl, hS10.done.forget, hsm2, hS10.own0 (i := 0) rfl, hP⟩

set_option maxHeartbeats 2000000 in
theorem w_law10_edges {σ : Hv} {w : World} (l_p : (List ByteArray)) (codes_p : (List UInt8)) (up_p : Bool) (v1 : Value) (v2 : Value) {K : (List (ByteArray × ByteArray)) → Prop} (hV : View σ w) (hr1 : RSl 1 (REnc encTx) σ v1 l_p) (hr2 : RSl 1 RU8 σ v2 codes_p) (hP : P_law10_edges l_p codes_p up_p K) :
    Calls Try.prog 9 #[v1, v2, (.bool (up_p))] w (fun e w1 => ∃ (r1 : (List (ByteArray × ByteArray))) (v3 : Value), e = .returned v3 ∧ Grow [] σ w σ w1 ∧ Sml r1.length ∧ ((vec v3 40 2 r1.length ((r1).flatMap encEd)).ok w1 ∧ ∀ k, (vec v3 40 2 r1.length ((r1).flatMap encEd)).foot = some k → w.heap.size ≤ k ∧ σ k = none) ∧ K r1) := by
 unfold P_law10_edges at hP
 obtain ⟨a1, cap1, rfl⟩ := hr1.shape
 obtain ⟨a2, cap2, rfl⟩ := hr2.shape
 refine enter Try.func9 rfl rfl rfl ?_
 have hS := St.start hV
 refine seq_reg (o_assign (v := (.slice none 0 0)) rfl (wpList_nil (then_n (seq_reg (o_move (v := (.slice a2 codes_p.length cap2)) rfl ?_)))))
 obtain ⟨Y1, hK1, hc1⟩ := hP
 refine o_call (args := [(.slice a2 codes_p.length cap2), (.int .i64 (30 : Int))]) rfl Try.call19 (Calls.mono (w_draw_New codes_p (30 : Int) (.slice a2 codes_p.length cap2) hS.view hr2 hc1) ?_)
 rintro _ w1 ⟨r1_, v4, b1, σ1, rfl, hg1, hr4, ho1, hY1⟩
 refine ⟨_, rfl, ?_⟩
 have hS1 := hS.growAdd hg1 (o := blk b1 64 [v4, (.int .i64 r1_.2)]) ho1
 replace hP := hK1 r1_ hY1
 obtain ⟨a3, cap3, rfl⟩ := hr4.shape
 refine o_assign (v := (.pointer (some ⟨b1, 0, none⟩))) rfl (wpList_nil (then_n (seq_reg (o_assign (v := (.slice none 0 0)) rfl (wpList_nil (then_n (wp_seq (wp_block ?_))))))))
 have hS2 := hS1.addNil 40 2
 refine lp_loop2 (fun out_3 b_2 f z => ∃ (v8 : Value) (v9 : Value) (σ2 : Hv) (g : Fr), f = (upd (upd (upd (upd g 0 (.slice a1 l_p.length cap1)) 2 (.bool (up_p))) 7 (.pointer (some ⟨b1, 0, none⟩))) 8 v8) ∧ St ⟨w, σ, []⟩ z σ2 [vec v8 40 2 out_3.length ((out_3).flatMap encEd), blk b1 64 [v9, (.int .i64 b_2.2)]] ∧ Sub σ1 σ2 ∧ v8.oneCell' = true ∧ Sml out_3.length ∧ RSl 1 RU8 σ2 v9 b_2.1) hP ⟨(.slice none 0 0), (.slice a3 r1_.1.length cap3), σ1, _, (upd_in rfl (upd_in rfl (upd_in rfl (upd_in rfl rfl)))), hS2, (Sub.refl _), rfl, (by simp [Sml]), hr4⟩ ?_
 clear hP
 rintro out_3 b_2 Y2 hP f w2 ⟨v8, v9, σ2, g, rfl, hS3, hsub1, ho4, hl3, hr6⟩
 refine wp_seq (seq_reg (o_move (v := (.pointer (some ⟨b1, 0, none⟩))) rfl ?_))
 obtain ⟨Y3, hK2, hc2⟩ := hP
 refine o_call (args := [(.pointer (some ⟨b1, 0, none⟩))]) rfl Try.call20 (Calls.mono (w_draw_Codes_Left b_2 v9 b1 hS3.view hr6 (hS3.get (i := 1) rfl) (hS3.off _ (List.mem_of_getElem? (i := 1) rfl) _ rfl) hc2) ?_)
 rintro _ w3 ⟨r2_, v10, σ3, rfl, hg2, hr7, ho5, hY2⟩
 refine ⟨_, rfl, ?_⟩
 have hS4 := hS3.growM hg2 (i := 1) (o' := blk b1 64 [v10, (.int .i64 b_2.2)]) rfl rfl rfl ho5 (ms' := [vec v8 40 2 out_3.length ((out_3).flatMap encEd), blk b1 64 [v10, (.int .i64 b_2.2)]]) rfl
 replace hP := hK2 r2_ hY2
 obtain ⟨a4, cap4, rfl⟩ := hr7.shape
 rcases Bool.eq_false_or_eq_true (r2_) with hb1 | hb1
 ·
  replace hP := hP.1 hb1
  refine o_move (v := (.bool true)) (congrArg Value.bool hb1) (o_on rfl rfl (o_move (v := (.slice a1 l_p.length cap1)) rfl (o_on rfl rfl (o_len_slice rfl Try.underlying23 ?_))))
  have hlen1 := RSl.len63 hr1
  replace hP := hP hlen1
  refine o_on rfl rfl (o_gtr (r := (decide ((0 : Int) < ((l_p.length : Nat) : Int)))) rfl rfl rfl (o_pick_t (v := (.bool (decide ((0 : Int) < ((l_p.length : Nat) : Int))))) rfl rfl (wpList_nil (then_n ?_))))
  refine if_d ((0 : Int) < ((l_p.length : Nat) : Int)) rfl (fun ht1 => ?_) (fun ht1 => ?_)
  ·
   replace hP := hP.1 ht1
   refine wp_skip (then_n (wp_block ?_))
   obtain ⟨Y4, hK3, hP⟩ := hP
   refine cut (fun f z => ∃ (e_1 : (ByteArray × ByteArray)) (b_3 : (List UInt8 × Int)) (b2 : Nat) (v11 : Value) (σ4 : Hv) (g : Fr), Y4 e_1 b_3 ∧ f = (upd (upd (upd (upd (upd (upd (upd (upd g 0 (.slice a1 l_p.length cap1)) 2 (.bool (up_p))) 7 (.pointer (some ⟨b1, 0, none⟩))) 8 v8) 9 (.pointer (some ⟨b2, 0, none⟩))) 15 (.slice a1 l_p.length cap1)) 16 (.int .i64 ((l_p.length : Nat) : Int))) 17 (.bool (decide ((0 : Int) < ((l_p.length : Nat) : Int))))) ∧ St ⟨w, σ, []⟩ z σ4 [blk b2 40 [(.string e_1.1), (.string e_1.2)], blk b1 64 [v11, (.int .i64 b_3.2)], vec v8 40 2 out_3.length ((out_3).flatMap encEd)] ∧ Sub σ3 σ4 ∧ RSl 1 RU8 σ4 v11 b_3.1) ?_ ?_
   ·
    refine dr (fun z => St ⟨w, σ, []⟩ z σ3 [vec v8 40 2 out_3.length ((out_3).flatMap encEd)]) (by kernel_rfl) rfl ?_
    have hS5 := hS4.drew
    refine dt 0 1 (v := (.slice a1 l_p.length cap1)) (by kernel_rfl) rfl rfl (fun _ _ _ h => h) (hS5.sublist (.cons_cons _ (List.nil_sublist _))) (fun _ _ _ hK => o_move (v := (.slice a1 l_p.length cap1)) rfl ⟨rfl, hK⟩) (dt 1 3 (v := (.pointer (some ⟨b1, 0, none⟩))) (by kernel_rfl) rfl rfl (fun _ _ _ h => h) (hS5.sublist (.cons_cons _ (List.nil_sublist _))) (fun _ _ _ hK => o_move (v := (.pointer (some ⟨b1, 0, none⟩))) rfl ⟨rfl, hK⟩) (dt 2 7 (v := (.slice a1 l_p.length cap1)) (by kernel_rfl) rfl rfl (fun _ _ _ h => h) (hS5.sublist (.cons_cons _ (List.nil_sublist _))) (fun _ _ _ hK => o_move (v := (.slice a1 l_p.length cap1)) rfl ⟨rfl, hK⟩) (dt 3 15 (v := (.int .i64 ((l_p.length : Nat) : Int))) (by kernel_rfl) rfl rfl (fun _ _ _ h => h) (hS5.sublist (.cons_cons _ (List.nil_sublist _))) (fun _ _ _ hK => o_len_slice rfl Try.underlying23 ⟨rfl, hK⟩) (dt 7 143 (v := (.slice a1 l_p.length cap1)) (by kernel_rfl) rfl rfl (fun _ _ _ h => h) (hS5.sublist (.cons_cons _ (List.nil_sublist _))) (fun _ _ _ hK => o_move (v := (.slice a1 l_p.length cap1)) rfl ⟨rfl, hK⟩) (dt 8 399 (v := (.pointer (some ⟨b1, 0, none⟩))) (by kernel_rfl) rfl rfl (fun _ _ _ h => h) (hS5.sublist (.cons_cons _ (List.nil_sublist _))) (fun _ _ _ hK => o_move (v := (.pointer (some ⟨b1, 0, none⟩))) rfl ⟨rfl, hK⟩) (dt 9 911 (v := (.slice a1 l_p.length cap1)) (by kernel_rfl) rfl rfl (fun _ _ _ h => h) (hS5.sublist (.cons_cons _ (List.nil_sublist _))) (fun _ _ _ hK => o_move (v := (.slice a1 l_p.length cap1)) rfl ⟨rfl, hK⟩) (dt 10 1935 (v := (.int .i64 ((l_p.length : Nat) : Int))) (by kernel_rfl) rfl rfl (fun _ _ _ h => h) (hS5.sublist (.cons_cons _ (List.nil_sublist _))) (fun _ _ _ hK => o_len_slice rfl Try.underlying23 ⟨rfl, hK⟩) ?_)))))))
    refine d2 4 15 1951 34703 (by kernel_rfl) rfl rfl rfl rfl ?_ ?_
    ·
     obtain ⟨Y5, hK4, hc3⟩ := hP
     refine o_call (args := [(.pointer (some ⟨b1, 0, none⟩)), (.int .i64 ((l_p.length : Nat) : Int))]) rfl Try.call21 (Calls.mono (w_draw_Codes_Next b_2 ((l_p.length : Nat) : Int) (.slice a4 b_2.1.length cap4) b1 hS5.view hr7 (hS5.get (i := 1) rfl) (hS5.off _ (List.mem_of_getElem? (i := 1) rfl) _ rfl) hc3) ?_)
     rintro _ w4 ⟨r3_, q1_, v12, σ5, rfl, hg3, hr9, ho6, hY3⟩
     refine ⟨_, rfl, ?_⟩
     have hS6 := hS5.growM hg3 (i := 1) (o' := blk b1 64 [v12, (.int .i64 q1_.2)]) rfl rfl rfl ho6 (ms' := [vec v8 40 2 out_3.length ((out_3).flatMap encEd), blk b1 64 [v12, (.int .i64 q1_.2)]]) rfl
     replace hP := hK4 r3_ q1_ hY3
     obtain ⟨a5, cap5, rfl⟩ := hr9.shape
     refine wpList_nil ?_
     refine ⟨rfl, ((hS6.sublist (.cons_cons _ (List.nil_sublist _))).less hS5 hg3.sub), wpJ_weak (J' := fun z => St ⟨w, σ, []⟩ z σ5 [vec v8 40 2 out_3.length ((out_3).flatMap encEd)]) (fun w h => (h.less hS5 hg3.sub).sublist (List.Sublist.refl _)) _ _ _ _ ?_⟩
     obtain ⟨j1_, hj1, hP⟩ := hP
     obtain ⟨x1_, hx1, hP⟩ := hP
     obtain ⟨ad1, cs1, ha1, hl4, hr10, hR1, hlt1⟩ := RSl.at hr1 hx1
     cases hR1
     refine dt 5 1983 (v := (.pointer (some (ad1.add (j1_ * 1))))) (by kernel_rfl) rfl rfl (fun _ _ _ h => h) (hS6.sublist (.cons_cons _ (List.nil_sublist _))) (fun _ _ _ hK => o_iaddr_slice (k := j1_) (a' := (ad1.add (j1_ * 1))) (congrArg (fun z => Value.slice z _ _) ha1) rfl hj1 hlt1 Try.underlying23 Try.sizeOf9 rfl ⟨rfl, hK⟩) (dt 6 2047 (v := (.string x1_)) (by kernel_rfl) rfl rfl (fun _ _ _ h => h) (hS6.sublist (.cons_cons _ (List.nil_sublist _))) (fun _ hJ _ hK => o_load (v := (.string x1_)) rfl Try.isAgg9 (hr10.cell (View.of (Sub.trans (Sub.trans (Sub.trans hg1.sub hsub1) hg2.sub) hg3.sub) hJ.view) 0 rfl rfl) ⟨rfl, hK⟩) ?_)
     refine d2 11 15 4095 34815 (by kernel_rfl) rfl rfl rfl rfl ?_ ?_
     ·
      obtain ⟨Y6, hK5, hc4⟩ := hP
      refine o_call (args := [(.pointer (some ⟨b1, 0, none⟩)), (.int .i64 ((l_p.length : Nat) : Int))]) rfl Try.call21 (Calls.mono (w_draw_Codes_Next q1_ ((l_p.length : Nat) : Int) (.slice a5 q1_.1.length cap5) b1 hS6.view hr9 (hS6.get (i := 1) rfl) (hS6.off _ (List.mem_of_getElem? (i := 1) rfl) _ rfl) hc4) ?_)
      rintro _ w5 ⟨r4_, q2_, v13, σ6, rfl, hg4, hr11, ho7, hY4⟩
      refine ⟨_, rfl, ?_⟩
      have hS7 := hS6.growM hg4 (i := 1) (o' := blk b1 64 [v13, (.int .i64 q2_.2)]) rfl rfl rfl ho7 (ms' := [vec v8 40 2 out_3.length ((out_3).flatMap encEd), blk b1 64 [v13, (.int .i64 q2_.2)]]) rfl
      replace hP := hK5 r4_ q2_ hY4
      obtain ⟨a6, cap6, rfl⟩ := hr11.shape
      refine wpList_nil ?_
      refine ⟨rfl, ((hS7.sublist (.cons_cons _ (List.nil_sublist _))).less hS6 hg4.sub), wpJ_weak (J' := fun z => St ⟨w, σ, []⟩ z σ6 [vec v8 40 2 out_3.length ((out_3).flatMap encEd)]) (fun w h => (h.less hS6 hg4.sub).sublist (List.Sublist.refl _)) _ _ _ _ ?_⟩
      obtain ⟨j2_, hj2, hP⟩ := hP
      obtain ⟨x2_, hx2, hP⟩ := hP
      obtain ⟨ad2, cs2, ha2, hl5, hr12, hR2, hlt2⟩ := RSl.at hr1 hx2
      cases hR2
      refine dt 12 8191 (v := (.pointer (some (ad2.add (j2_ * 1))))) (by kernel_rfl) rfl rfl (fun _ _ _ h => h) (hS7.sublist (.cons_cons _ (List.nil_sublist _))) (fun _ _ _ hK => o_iaddr_slice (k := j2_) (a' := (ad2.add (j2_ * 1))) (congrArg (fun z => Value.slice z _ _) ha2) rfl hj2 hlt2 Try.underlying23 Try.sizeOf9 rfl ⟨rfl, hK⟩) (dt 13 16383 (v := (.string x2_)) (by kernel_rfl) rfl rfl (fun _ _ _ h => h) (hS7.sublist (.cons_cons _ (List.nil_sublist _))) (fun _ hJ _ hK => o_load (v := (.string x2_)) rfl Try.isAgg9 (hr12.cell (View.of (Sub.trans (Sub.trans (Sub.trans (Sub.trans hg1.sub hsub1) hg2.sub) hg3.sub) hg4.sub) hJ.view) 0 rfl rfl) ⟨rfl, hK⟩) (dt 14 32767 (v := (.agg #[(.string x1_), (.string x2_)])) (by kernel_rfl) rfl rfl (fun _ _ _ h => h) (hS7.sublist (.cons_cons _ (List.nil_sublist _))) (fun _ _ _ hK => o_build (v := (.agg #[(.string x1_), (.string x2_)])) (fun _ => by kernel_rfl) ⟨rfl, hK⟩) (d1 15 65535 (by kernel_rfl) rfl (o_alloc (cs := [(.string (⟨#[]⟩ : ByteArray)), (.string (⟨#[]⟩ : ByteArray))]) hS7 Try.zeroValue40 rfl ?_))))
      intro b3 w6 hS8
      refine wpList_nil ?_
      refine ⟨rfl, (hS8.sublist (.cons _ (.cons_cons _ (List.nil_sublist _)))), ?_⟩
      refine d1 16 131071 (by kernel_rfl) rfl (o_store (T := 40) (vs := [(.string x1_), (.string x2_)]) (cs' := [(.string x1_), (.string x2_)]) (ms' := [blk b3 40 [(.string x1_), (.string x2_)], vec v8 40 2 out_3.length ((out_3).flatMap encEd), blk b1 64 [(.slice a6 q2_.1.length cap6), (.int .i64 q2_.2)]]) (i := 0) hS8 rfl rfl rfl Try.sizeOf40 rfl (ones rfl) rfl (Nat.le_of_ble_eq_true rfl) rfl rfl ?_)
      intro w7 hS9
      refine wpList_nil ?_
      refine ⟨rfl, (hS9.sublist (.cons _ (.cons_cons _ (List.nil_sublist _)))), wpJ_weak (J' := fun z => St ⟨w, σ, []⟩ z σ6 [blk b3 40 [(.string x1_), (.string x2_)], vec v8 40 2 out_3.length ((out_3).flatMap encEd), blk b1 64 [(.slice a6 q2_.1.length cap6), (.int .i64 q2_.2)]]) (fun w h => h.sublist (.cons _ (.cons_cons _ (List.nil_sublist _)))) _ _ _ _ ?_⟩
      refine dz (by kernel_rfl) (then_n ?_)
      have hS10 := hS9.front 1 rfl (ms' := [vec v8 40 2 out_3.length ((out_3).flatMap encEd), blk b3 40 [(.string x1_), (.string x2_)], blk b1 64 [(.slice a6 q2_.1.length cap6), (.int .i64 q2_.2)]]) rfl
      have hS11 := hS10.front 2 rfl (ms' := [blk b1 64 [(.slice a6 q2_.1.length cap6), (.int .i64 q2_.2)], vec v8 40 2 out_3.length ((out_3).flatMap encEd), blk b3 40 [(.string x1_), (.string x2_)]]) rfl
      have hS12 := hS11.front 2 rfl (ms' := [blk b3 40 [(.string x1_), (.string x2_)], blk b1 64 [(.slice a6 q2_.1.length cap6), (.int .i64 q2_.2)], vec v8 40 2 out_3.length ((out_3).flatMap encEd)]) rfl
      exact ⟨_, rfl, (x1_, x2_), q2_, b3, (.slice a6 q2_.1.length cap6), σ6, _, hP, (upd_in rfl (upd_in rfl (upd_in rfl (upd_in rfl (upd_in rfl (upd_in rfl (upd_in rfl (upd_in rfl rfl)))))))), hS12, (Sub.trans hg3.sub hg4.sub), hr11⟩
     ·
      refine o_alloc (cs := [(.string (⟨#[]⟩ : ByteArray)), (.string (⟨#[]⟩ : ByteArray))]) hS6 Try.zeroValue40 rfl ?_
      intro b3 w5 hS7
      refine wpList_nil ?_
      refine ⟨rfl, (hS7.sublist (.cons _ (.cons_cons _ (List.nil_sublist _)))), ?_⟩
      refine d1 11 36863 (by kernel_rfl) rfl ?_
      obtain ⟨Y6, hK5, hc4⟩ := hP
      refine o_call (args := [(.pointer (some ⟨b1, 0, none⟩)), (.int .i64 ((l_p.length : Nat) : Int))]) rfl Try.call21 (Calls.mono (w_draw_Codes_Next q1_ ((l_p.length : Nat) : Int) (.slice a5 q1_.1.length cap5) b1 hS7.view hr9 (hS7.get (i := 2) rfl) (hS7.off _ (List.mem_of_getElem? (i := 2) rfl) _ rfl) hc4) ?_)
      rintro _ w6 ⟨r4_, q2_, v13, σ6, rfl, hg4, hr11, ho7, hY4⟩
      refine ⟨_, rfl, ?_⟩
      have hS8 := hS7.growM hg4 (i := 2) (o' := blk b1 64 [v13, (.int .i64 q2_.2)]) rfl rfl rfl ho7 (ms' := [blk b3 40 ([(.string (⟨#[]⟩ : ByteArray)), (.string (⟨#[]⟩ : ByteArray))]), vec v8 40 2 out_3.length ((out_3).flatMap encEd), blk b1 64 [v13, (.int .i64 q2_.2)]]) rfl
      replace hP := hK5 r4_ q2_ hY4
      obtain ⟨a6, cap6, rfl⟩ := hr11.shape
      refine wpList_nil ?_
      refine ⟨rfl, ((hS8.sublist (.cons _ (.cons_cons _ (List.nil_sublist _)))).less hS6 hg4.sub), wpJ_weak (J' := fun z => St ⟨w, σ, []⟩ z σ6 [vec v8 40 2 out_3.length ((out_3).flatMap encEd)]) (fun w h => (h.less hS6 hg4.sub).sublist (List.Sublist.refl _)) _ _ _ _ ?_⟩
      obtain ⟨j2_, hj2, hP⟩ := hP
      obtain ⟨x2_, hx2, hP⟩ := hP
      obtain ⟨ad2, cs2, ha2, hl5, hr12, hR2, hlt2⟩ := RSl.at hr1 hx2
      cases hR2
      refine dt 12 40959 (v := (.pointer (some (ad2.add (j2_ * 1))))) (by kernel_rfl) rfl rfl (fun _ _ _ h => h) (hS8.sublist (.cons _ (.cons_cons _ (List.nil_sublist _)))) (fun _ _ _ hK => o_iaddr_slice (k := j2_) (a' := (ad2.add (j2_ * 1))) (congrArg (fun z => Value.slice z _ _) ha2) rfl hj2 hlt2 Try.underlying23 Try.sizeOf9 rfl ⟨rfl, hK⟩) (dt 13 49151 (v := (.string x2_)) (by kernel_rfl) rfl rfl (fun _ _ _ h => h) (hS8.sublist (.cons _ (.cons_cons _ (List.nil_sublist _)))) (fun _ hJ _ hK => o_load (v := (.string x2_)) rfl Try.isAgg9 (hr12.cell (View.of (Sub.trans (Sub.trans (Sub.trans (Sub.trans hg1.sub hsub1) hg2.sub) hg3.sub) hg4.sub) hJ.view) 0 rfl rfl) ⟨rfl, hK⟩) (dt 14 65535 (v := (.agg #[(.string x1_), (.string x2_)])) (by kernel_rfl) rfl rfl (fun _ _ _ h => h) (hS8.sublist (.cons _ (.cons_cons _ (List.nil_sublist _)))) (fun _ _ _ hK => o_build (v := (.agg #[(.string x1_), (.string x2_)])) (fun _ => by kernel_rfl) ⟨rfl, hK⟩) (d1 16 131071 (by kernel_rfl) rfl (o_store (T := 40) (vs := [(.string x1_), (.string x2_)]) (cs' := [(.string x1_), (.string x2_)]) (ms' := [blk b3 40 [(.string x1_), (.string x2_)], vec v8 40 2 out_3.length ((out_3).flatMap encEd), blk b1 64 [(.slice a6 q2_.1.length cap6), (.int .i64 q2_.2)]]) (i := 0) hS8 rfl rfl rfl Try.sizeOf40 rfl (ones rfl) rfl (Nat.le_of_ble_eq_true rfl) rfl rfl ?_))))
      intro w7 hS9
      refine wpList_nil ?_
      refine ⟨rfl, (hS9.sublist (.cons _ (.cons_cons _ (List.nil_sublist _)))), wpJ_weak (J' := fun z => St ⟨w, σ, []⟩ z σ6 [blk b3 40 [(.string x1_), (.string x2_)], vec v8 40 2 out_3.length ((out_3).flatMap encEd), blk b1 64 [(.slice a6 q2_.1.length cap6), (.int .i64 q2_.2)]]) (fun w h => h.sublist (.cons _ (.cons_cons _ (List.nil_sublist _)))) _ _ _ _ ?_⟩
      refine dz (by kernel_rfl) (then_n ?_)
      have hS10 := hS9.front 1 rfl (ms' := [vec v8 40 2 out_3.length ((out_3).flatMap encEd), blk b3 40 [(.string x1_), (.string x2_)], blk b1 64 [(.slice a6 q2_.1.length cap6), (.int .i64 q2_.2)]]) rfl
      have hS11 := hS10.front 2 rfl (ms' := [blk b1 64 [(.slice a6 q2_.1.length cap6), (.int .i64 q2_.2)], vec v8 40 2 out_3.length ((out_3).flatMap encEd), blk b3 40 [(.string x1_), (.string x2_)]]) rfl
      have hS12 := hS11.front 2 rfl (ms' := [blk b3 40 [(.string x1_), (.string x2_)], blk b1 64 [(.slice a6 q2_.1.length cap6), (.int .i64 q2_.2)], vec v8 40 2 out_3.length ((out_3).flatMap encEd)]) rfl
      exact ⟨_, rfl, (x1_, x2_), q2_, b3, (.slice a6 q2_.1.length cap6), σ6, _, hP, (upd_in rfl (upd_in rfl (upd_in rfl (upd_in rfl (upd_in rfl (upd_in rfl (upd_in rfl (upd_in rfl rfl)))))))), hS12, (Sub.trans hg3.sub hg4.sub), hr11⟩
    ·
     refine o_alloc (cs := [(.string (⟨#[]⟩ : ByteArray)), (.string (⟨#[]⟩ : ByteArray))]) hS5 Try.zeroValue40 rfl ?_
     intro b3 w4 hS6
     refine wpList_nil ?_
     refine ⟨rfl, (hS6.sublist (.cons _ (.cons_cons _ (List.nil_sublist _)))), ?_⟩
     refine d1 4 34719 (by kernel_rfl) rfl ?_
     obtain ⟨Y5, hK4, hc3⟩ := hP
     refine o_call (args := [(.pointer (some ⟨b1, 0, none⟩)), (.int .i64 ((l_p.length : Nat) : Int))]) rfl Try.call21 (Calls.mono (w_draw_Codes_Next b_2 ((l_p.length : Nat) : Int) (.slice a4 b_2.1.length cap4) b1 hS6.view hr7 (hS6.get (i := 2) rfl) (hS6.off _ (List.mem_of_getElem? (i := 2) rfl) _ rfl) hc3) ?_)
     rintro _ w5 ⟨r3_, q1_, v12, σ5, rfl, hg3, hr9, ho6, hY3⟩
     refine ⟨_, rfl, ?_⟩
     have hS7 := hS6.growM hg3 (i := 2) (o' := blk b1 64 [v12, (.int .i64 q1_.2)]) rfl rfl rfl ho6 (ms' := [blk b3 40 ([(.string (⟨#[]⟩ : ByteArray)), (.string (⟨#[]⟩ : ByteArray))]), vec v8 40 2 out_3.length ((out_3).flatMap encEd), blk b1 64 [v12, (.int .i64 q1_.2)]]) rfl
     replace hP := hK4 r3_ q1_ hY3
     obtain ⟨a5, cap5, rfl⟩ := hr9.shape
     refine wpList_nil ?_
     refine ⟨rfl, ((hS7.sublist (.cons _ (.cons_cons _ (List.nil_sublist _)))).less hS5 hg3.sub), wpJ_weak (J' := fun z => St ⟨w, σ, []⟩ z σ5 [vec v8 40 2 out_3.length ((out_3).flatMap encEd)]) (fun w h => (h.less hS5 hg3.sub).sublist (List.Sublist.refl _)) _ _ _ _ ?_⟩
     obtain ⟨j1_, hj1, hP⟩ := hP
     obtain ⟨x1_, hx1, hP⟩ := hP
     obtain ⟨ad1, cs1, ha1, hl4, hr10, hR1, hlt1⟩ := RSl.at hr1 hx1
     cases hR1
     refine dt 5 34751 (v := (.pointer (some (ad1.add (j1_ * 1))))) (by kernel_rfl) rfl rfl (fun _ _ _ h => h) (hS7.sublist (.cons _ (.cons_cons _ (List.nil_sublist _)))) (fun _ _ _ hK => o_iaddr_slice (k := j1_) (a' := (ad1.add (j1_ * 1))) (congrArg (fun z => Value.slice z _ _) ha1) rfl hj1 hlt1 Try.underlying23 Try.sizeOf9 rfl ⟨rfl, hK⟩) (dt 6 34815 (v := (.string x1_)) (by kernel_rfl) rfl rfl (fun _ _ _ h => h) (hS7.sublist (.cons _ (.cons_cons _ (List.nil_sublist _)))) (fun _ hJ _ hK => o_load (v := (.string x1_)) rfl Try.isAgg9 (hr10.cell (View.of (Sub.trans (Sub.trans (Sub.trans hg1.sub hsub1) hg2.sub) hg3.sub) hJ.view) 0 rfl rfl) ⟨rfl, hK⟩) (d1 11 36863 (by kernel_rfl) rfl ?_))
     obtain ⟨Y6, hK5, hc4⟩ := hP
     refine o_call (args := [(.pointer (some ⟨b1, 0, none⟩)), (.int .i64 ((l_p.length : Nat) : Int))]) rfl Try.call21 (Calls.mono (w_draw_Codes_Next q1_ ((l_p.length : Nat) : Int) (.slice a5 q1_.1.length cap5) b1 hS7.view hr9 (hS7.get (i := 2) rfl) (hS7.off _ (List.mem_of_getElem? (i := 2) rfl) _ rfl) hc4) ?_)
     rintro _ w6 ⟨r4_, q2_, v13, σ6, rfl, hg4, hr11, ho7, hY4⟩
     refine ⟨_, rfl, ?_⟩
     have hS8 := hS7.growM hg4 (i := 2) (o' := blk b1 64 [v13, (.int .i64 q2_.2)]) rfl rfl rfl ho7 (ms' := [blk b3 40 ([(.string (⟨#[]⟩ : ByteArray)), (.string (⟨#[]⟩ : ByteArray))]), vec v8 40 2 out_3.length ((out_3).flatMap encEd), blk b1 64 [v13, (.int .i64 q2_.2)]]) rfl
     replace hP := hK5 r4_ q2_ hY4
     obtain ⟨a6, cap6, rfl⟩ := hr11.shape
     refine wpList_nil ?_
     refine ⟨rfl, ((hS8.sublist (.cons _ (.cons_cons _ (List.nil_sublist _)))).less hS7 hg4.sub), wpJ_weak (J' := fun z => St ⟨w, σ, []⟩ z σ6 [vec v8 40 2 out_3.length ((out_3).flatMap encEd)]) (fun w h => (h.less hS7 hg4.sub).sublist (List.Sublist.refl _)) _ _ _ _ ?_⟩
     obtain ⟨j2_, hj2, hP⟩ := hP
     obtain ⟨x2_, hx2, hP⟩ := hP
     obtain ⟨ad2, cs2, ha2, hl5, hr12, hR2, hlt2⟩ := RSl.at hr1 hx2
     cases hR2
     refine dt 12 40959 (v := (.pointer (some (ad2.add (j2_ * 1))))) (by kernel_rfl) rfl rfl (fun _ _ _ h => h) (hS8.sublist (.cons _ (.cons_cons _ (List.nil_sublist _)))) (fun _ _ _ hK => o_iaddr_slice (k := j2_) (a' := (ad2.add (j2_ * 1))) (congrArg (fun z => Value.slice z _ _) ha2) rfl hj2 hlt2 Try.underlying23 Try.sizeOf9 rfl ⟨rfl, hK⟩) (dt 13 49151 (v := (.string x2_)) (by kernel_rfl) rfl rfl (fun _ _ _ h => h) (hS8.sublist (.cons _ (.cons_cons _ (List.nil_sublist _)))) (fun _ hJ _ hK => o_load (v := (.string x2_)) rfl Try.isAgg9 (hr12.cell (View.of (Sub.trans (Sub.trans (Sub.trans (Sub.trans hg1.sub hsub1) hg2.sub) hg3.sub) hg4.sub) hJ.view) 0 rfl rfl) ⟨rfl, hK⟩) (dt 14 65535 (v := (.agg #[(.string x1_), (.string x2_)])) (by kernel_rfl) rfl rfl (fun _ _ _ h => h) (hS8.sublist (.cons _ (.cons_cons _ (List.nil_sublist _)))) (fun _ _ _ hK => o_build (v := (.agg #[(.string x1_), (.string x2_)])) (fun _ => by kernel_rfl) ⟨rfl, hK⟩) (d1 16 131071 (by kernel_rfl) rfl (o_store (T := 40) (vs := [(.string x1_), (.string x2_)]) (cs' := [(.string x1_), (.string x2_)]) (ms' := [blk b3 40 [(.string x1_), (.string x2_)], vec v8 40 2 out_3.length ((out_3).flatMap encEd), blk b1 64 [(.slice a6 q2_.1.length cap6), (.int .i64 q2_.2)]]) (i := 0) hS8 rfl rfl rfl Try.sizeOf40 rfl (ones rfl) rfl (Nat.le_of_ble_eq_true rfl) rfl rfl ?_))))
     intro w7 hS9
     refine wpList_nil ?_
     refine ⟨rfl, (hS9.sublist (.cons _ (.cons_cons _ (List.nil_sublist _)))), wpJ_weak (J' := fun z => St ⟨w, σ, []⟩ z σ6 [blk b3 40 [(.string x1_), (.string x2_)], vec v8 40 2 out_3.length ((out_3).flatMap encEd), blk b1 64 [(.slice a6 q2_.1.length cap6), (.int .i64 q2_.2)]]) (fun w h => h.sublist (.cons _ (.cons_cons _ (List.nil_sublist _)))) _ _ _ _ ?_⟩
     refine dz (by kernel_rfl) (then_n ?_)
     have hS10 := hS9.front 1 rfl (ms' := [vec v8 40 2 out_3.length ((out_3).flatMap encEd), blk b3 40 [(.string x1_), (.string x2_)], blk b1 64 [(.slice a6 q2_.1.length cap6), (.int .i64 q2_.2)]]) rfl
     have hS11 := hS10.front 2 rfl (ms' := [blk b1 64 [(.slice a6 q2_.1.length cap6), (.int .i64 q2_.2)], vec v8 40 2 out_3.length ((out_3).flatMap encEd), blk b3 40 [(.string x1_), (.string x2_)]]) rfl
     have hS12 := hS11.front 2 rfl (ms' := [blk b3 40 [(.string x1_), (.string x2_)], blk b1 64 [(.slice a6 q2_.1.length cap6), (.int .i64 q2_.2)], vec v8 40 2 out_3.length ((out_3).flatMap encEd)]) rfl
     exact ⟨_, rfl, (x1_, x2_), q2_, b3, (.slice a6 q2_.1.length cap6), σ6, _, hP, (upd_in rfl (upd_in rfl (upd_in rfl (upd_in rfl (upd_in rfl (upd_in rfl (upd_in rfl (upd_in rfl rfl)))))))), hS12, (Sub.trans hg3.sub hg4.sub), hr11⟩
   ·
    rintro f w8 ⟨e_1, b_3, b2, v11, σ4, g, hY5, rfl, hS13, hsub2, hr8⟩
    replace hP := hK3 e_1 b_3 hY5
    refine wp_seq (seq_reg (o_move (v := (.bool (up_p))) rfl (o_not (r := (!up_p)) rfl rfl ?_)))
    rcases Bool.eq_false_or_eq_true (up_p) with hb2 | hb2
    ·
     replace hP := hP.1 hb2
     refine o_move (v := (.bool false)) (congrArg Value.bool (congrArg Bool.not hb2)) (o_off rfl rfl (o_off rfl rfl (o_off rfl rfl (o_off rfl rfl (o_off rfl rfl (o_pick_f (v := (.bool false)) rfl rfl (wpList_nil (then_n (if_f rfl (wp_skip (then_n (one_reg (o_move (v := v8) rfl (o_loadA (cs := [(.string e_1.1), (.string e_1.2)]) rfl Try.isAgg40 Try.sizeOf40 rfl (blk_row (hS13.get (i := 0) rfl)) (o_bslice (cs := [(.string e_1.1), (.string e_1.2)]) (e := 40) hS13 (fun _ => by kernel_rfl) ?_)))))))))))))))
     intro b4 w9 hS14
     obtain ⟨hsm1, hP⟩ := hP
     refine o_app (Ms := fun v14 => [blk b4 40 [(.string e_1.1), (.string e_1.2)], blk b2 40 [(.string e_1.1), (.string e_1.2)], blk b1 64 [v11, (.int .i64 b_3.2)], vec v14 40 2 ((out_3 ++ [e_1]).length) ((out_3 ++ [e_1]).flatMap encEd)]) (k' := (out_3 ++ [e_1]).length) (xs' := (out_3 ++ [e_1]).flatMap encEd) Try.underlying24 Try.type40 rfl rfl (bytes := 32) rfl rfl (Nat.succ_pos _) hS14 rfl (q := 3) rfl rfl rfl (blk_row (hS14.get (i := 0) rfl)) (ones rfl) hsm1 (by omega) (by first | rfl | exact List.length_append.symm | simp) (by simp [encEd]) (fun _ => rfl) ?_
     intro v14 w10 ho8 hS15
     have hS16 := hS15.drop 0 (ms' := [blk b2 40 [(.string e_1.1), (.string e_1.2)], blk b1 64 [v11, (.int .i64 b_3.2)], vec v14 40 2 ((out_3 ++ [e_1]).length) ((out_3 ++ [e_1]).flatMap encEd)]) rfl
     refine o_assign (v := v14) rfl (wpList_nil (blk_n (then_n ?_)))
     have hS17 := hS16.front 1 rfl (ms' := [blk b1 64 [v11, (.int .i64 b_3.2)], blk b2 40 [(.string e_1.1), (.string e_1.2)], vec v14 40 2 ((out_3 ++ [e_1]).length) ((out_3 ++ [e_1]).flatMap encEd)]) rfl
     have hS18 := hS17.front 2 rfl (ms' := [vec v14 40 2 ((out_3 ++ [e_1]).length) ((out_3 ++ [e_1]).flatMap encEd), blk b1 64 [v11, (.int .i64 b_3.2)], blk b2 40 [(.string e_1.1), (.string e_1.2)]]) rfl
     exact ⟨out_3 ++ [e_1], b_3, _, rfl, hP, v14, v11, σ4, _, (upd_in rfl (upd_in rfl (upd_in rfl (upd_in rfl rfl)))), (hS18.keep 2 (ms' := [vec v14 40 2 ((out_3 ++ [e_1]).length) ((out_3 ++ [e_1]).flatMap encEd), blk b1 64 [v11, (.int .i64 b_3.2)]]) rfl), (Sub.trans (Sub.trans hsub1 hg2.sub) hsub2), ho8, hsm1, hr8⟩
    ·
     replace hP := hP.2 (by first | (rw [hb2]; exact Bool.false_ne_true) | simp [hb2])
     refine o_move (v := (.bool true)) (congrArg Value.bool (congrArg Bool.not hb2)) (o_on rfl rfl (o_faddr (a' := ⟨b2, 0, none⟩) rfl Try.underlying40 rfl Try.sizeOf9 rfl (o_on rfl rfl (o_load (v := (.string e_1.1)) rfl Try.isAgg9 (hS13.cell (i := 0) rfl rfl) (o_on rfl rfl (o_faddr (a' := ⟨b2, 1, none⟩) rfl Try.underlying40 rfl Try.sizeOf9 rfl (o_on rfl rfl (o_load (v := (.string e_1.2)) rfl Try.isAgg9 (hS13.cell (i := 0) rfl rfl) (o_on rfl rfl (o_leqs (r := (!decide (Lk.blt e_1.2 e_1.1))) rfl rfl rfl (o_pick_t (v := (.bool (!decide (Lk.blt e_1.2 e_1.1)))) rfl rfl (wpList_nil (then_n ?_)))))))))))))
     refine if_nd (Lk.blt e_1.2 e_1.1) rfl (fun ht2 => ?_) (fun ht2 => ?_)
     ·
      replace hP := hP.2 ht2
      refine wp_exit (then_e (blk_hit (then_n ?_)))
      have hS19 := hS13.front 1 rfl (ms' := [blk b1 64 [v11, (.int .i64 b_3.2)], blk b2 40 [(.string e_1.1), (.string e_1.2)], vec v8 40 2 out_3.length ((out_3).flatMap encEd)]) rfl
      have hS20 := hS19.front 2 rfl (ms' := [vec v8 40 2 out_3.length ((out_3).flatMap encEd), blk b1 64 [v11, (.int .i64 b_3.2)], blk b2 40 [(.string e_1.1), (.string e_1.2)]]) rfl
      exact ⟨out_3, b_3, _, rfl, hP, v8, v11, σ4, _, (upd_in rfl (upd_in rfl (upd_in rfl (upd_in rfl rfl)))), (hS20.keep 2 (ms' := [vec v8 40 2 out_3.length ((out_3).flatMap encEd), blk b1 64 [v11, (.int .i64 b_3.2)]]) rfl), (Sub.trans (Sub.trans hsub1 hg2.sub) hsub2), ho4, hl3, hr8⟩
     ·
      replace hP := hP.1 ht2
      refine wp_skip (then_n (one_reg (o_move (v := v8) rfl (o_loadA (cs := [(.string e_1.1), (.string e_1.2)]) rfl Try.isAgg40 Try.sizeOf40 rfl (blk_row (hS13.get (i := 0) rfl)) (o_bslice (cs := [(.string e_1.1), (.string e_1.2)]) (e := 40) hS13 (fun _ => by kernel_rfl) ?_)))))
      intro b5 w11 hS21
      obtain ⟨hsm2, hP⟩ := hP
      refine o_app (Ms := fun v15 => [blk b5 40 [(.string e_1.1), (.string e_1.2)], blk b2 40 [(.string e_1.1), (.string e_1.2)], blk b1 64 [v11, (.int .i64 b_3.2)], vec v15 40 2 ((out_3 ++ [e_1]).length) ((out_3 ++ [e_1]).flatMap encEd)]) (k' := (out_3 ++ [e_1]).length) (xs' := (out_3 ++ [e_1]).flatMap encEd) Try.underlying24 Try.type40 rfl rfl (bytes := 32) rfl rfl (Nat.succ_pos _) hS21 rfl (q := 3) rfl rfl rfl (blk_row (hS21.get (i := 0) rfl)) (ones rfl) hsm2 (by omega) (by first | rfl | exact List.length_append.symm | simp) (by simp [encEd]) (fun _ => rfl) ?_
      intro v15 w12 ho9 hS22
      have hS23 := hS22.drop 0 (ms' := [blk b2 40 [(.string e_1.1), (.string e_1.2)], blk b1 64 [v11, (.int .i64 b_3.2)], vec v15 40 2 ((out_3 ++ [e_1]).length) ((out_3 ++ [e_1]).flatMap encEd)]) rfl
      refine o_assign (v := v15) rfl (wpList_nil (blk_n (then_n ?_)))
      have hS24 := hS23.front 1 rfl (ms' := [blk b1 64 [v11, (.int .i64 b_3.2)], blk b2 40 [(.string e_1.1), (.string e_1.2)], vec v15 40 2 ((out_3 ++ [e_1]).length) ((out_3 ++ [e_1]).flatMap encEd)]) rfl
      have hS25 := hS24.front 2 rfl (ms' := [vec v15 40 2 ((out_3 ++ [e_1]).length) ((out_3 ++ [e_1]).flatMap encEd), blk b1 64 [v11, (.int .i64 b_3.2)], blk b2 40 [(.string e_1.1), (.string e_1.2)]]) rfl
      exact ⟨out_3 ++ [e_1], b_3, _, rfl, hP, v15, v11, σ4, _, (upd_in rfl (upd_in rfl (upd_in rfl (upd_in rfl rfl)))), (hS25.keep 2 (ms' := [vec v15 40 2 ((out_3 ++ [e_1]).length) ((out_3 ++ [e_1]).flatMap encEd), blk b1 64 [v11, (.int .i64 b_3.2)]]) rfl), (Sub.trans (Sub.trans hsub1 hg2.sub) hsub2), ho9, hsm2, hr8⟩
  ·
   replace hP := hP.2 ht1
   refine wp_exit (then_e (then_e (blk_hit (then_n (seq_reg (o_move (v := v8) rfl (o_assign (v := v8) rfl (wpList_nil (then_n (wp_ret (ret1 rfl (show ev _ _ _ = v8 from rfl) ?_)))))))))))
   exact ⟨out_3, v8, rfl, hS4.done.forget, hl3, hS4.own0 (i := 0) rfl, hP⟩
 ·
  replace hP := hP.2 (by first | (rw [hb1]; exact Bool.false_ne_true) | simp [hb1])
  refine o_move (v := (.bool false)) (congrArg Value.bool hb1) (o_off rfl rfl (o_off rfl rfl (o_off rfl rfl (o_pick_f (v := (.bool false)) rfl rfl (wpList_nil (then_n (if_f rfl (wp_exit (then_e (then_e (blk_hit (then_n (seq_reg (o_move (v := v8) rfl (o_assign (v := v8) rfl (wpList_nil (then_n (wp_ret (ret1 rfl (show ev _ _ _ = v8 from rfl) ?_)))))))))))))))))))
  exact ⟨out_3, v8, rfl, hS4.done.forget, hl3, hS4.own0 (i := 0) rfl, hP⟩

end Go.Proofs.Ytegcjfidfinogaa
