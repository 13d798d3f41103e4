/- What a call answers, and that it leaves the memory that was there as it was: flagstone/traffic.spans. Conditions: those of each statement (that the arguments can be read). -/
import Derived.Test.YtddgjdaobcbcaaaRows
import Derived.Test.YtddgjdaobcbcaaaFlDraw
import Derived.KernelRfl
import Derived.Test.YtddgjdaobcbcaaaExp3
namespace Go.Proofs.Ytddgjdaobcbcaaa
open Go Go.RowKit Go.Fl

theorem c_spans {σ : Hv} {w : World} (fid : FuncId) (C : List Value) (p : Nat → Bool) (O : Nat → HObj) (bo : Option Nat) (hfo : ∀ k, (O k).foot = bo) (hcall : ∀ args w, (callFunc fid args).run Try.prog w = .ok (.enter fid args) w)
    (hcl : ∀ (k : Nat) (w1 : World), k < 10000 → View σ w1 → (O k).ok w1 → Calls Try.prog fid ((.int .i64 ((k : Nat) : Int)) :: C).toArray w1 fun e w2 => e = .returned (.bool (p k)) ∧ Grow bo.toList σ w1 σ w2 ∧ (O (k + 1)).ok w2)
    (hV : View σ w) (hO : (O 0).ok w) (hσ : ∀ k, (O 0).foot = some k → σ k = none) :
    Calls Try.prog 26 #[(.func (.func fid) #[] (C).toArray)] w fun e w1 => ∃ (v : Value) (σ1 : Hv), e = .returned v ∧ Grow bo.toList σ w σ1 w1 ∧ RSl 2 (REnc encSp) σ1 v (Sp.runs p 10000) ∧ (O 10000).ok w1 := by
  refine enter Try.func26 rfl rfl rfl ?_
  have hS := St.startO hV hO hσ
  refine seq_reg ?_
  refine o_assign (v := (.slice none 0 0)) rfl ?_
  refine wpList_nil ?_
  refine then_n ?_
  refine seq_reg ?_
  refine o_assign (v := (.slice none 0 0)) rfl ?_
  refine wpList_nil ?_
  refine then_n ?_
  refine wp_seq ?_
  refine seq_reg ?_
  refine o_move (v := (.int .i64 (0 : Int))) rfl ?_
  refine wpList_nil ?_
  refine then_n ?_
  refine wp_block ?_
  have hSn := hS.addNil 37 2
  refine loop (fun m f z => ∃ (k : Nat) (v : Value) (g : Fr), m = 10000 - k ∧ f = (upd (upd (upd g 0 (.func (.func fid) #[] (C).toArray)) 3 v) 6 (.int .i64 ((k : Nat) : Int))) ∧ St ⟨w, σ, (O 0).foot.toList⟩ z σ [vec v 37 2 ((Sp.runs p k).length) ((Sp.runs p k).flatMap encSp), O k] ∧ (v.oneCell' = true) ∧ (k ≤ 10000)) (m0 := _) ⟨0, _, _, rfl, (upd_in rfl (upd_in rfl (upd_in rfl rfl))), hSn, rfl, Nat.zero_le _⟩ ?_
  rintro _ _ w1 ⟨k, v, g, rfl, rfl, hS1, hone, hk⟩
  have hrl := Sp.runs_len p k
  refine seq_reg ?_
  refine o_lss (r := (decide (((k : Nat) : Int) < (10000 : Int)))) rfl rfl rfl ?_
  refine wpList_nil ?_
  refine then_n ?_
  refine wp_seq ?_
  refine if_d (((k : Nat) : Int) < (10000 : Int)) rfl (fun ht1 => ?_) (fun ht1 => ?_)
  · refine wp_skip ?_
    refine then_n ?_
    refine wp_seq ?_
    refine wp_block ?_
    refine seq_reg ?_
    refine o_move (v := (.int .i64 ((k : Nat) : Int))) rfl ?_
    refine o_assign (v := (.int .i64 ((k : Nat) : Int))) rfl ?_
    refine wpList_nil ?_
    refine then_n ?_
    refine wp_seq ?_
    refine seq_reg ?_
    refine o_move (v := (.func (.func fid) #[] (C).toArray)) rfl ?_
    refine o_move (v := (.int .i64 ((k : Nat) : Int))) rfl ?_
    refine o_callv (first := []) (captured := C) (args := (.int .i64 ((k : Nat) : Int)) :: C) rfl rfl hcall (Calls.mono (hcl k _ (by omega) hS1.view (hS1.get (i := 1) rfl)) ?_)
    rintro _ w2 ⟨rfl, hg1, ho1⟩
    refine ⟨_, rfl, ?_⟩
    have hS2 := hS1.growO hg1 (i := 1) (o' := O (k + 1)) rfl (hfo _) (hfo _) ho1 (ms' := [vec v 37 2 ((Sp.runs p k).length) ((Sp.runs p k).flatMap encSp), O (k + 1)]) rfl
    refine o_not (r := (!p k)) rfl rfl ?_
    refine wpList_nil ?_
    refine then_n ?_
    refine if_nb rfl (fun ht2 => ?_) (fun ht2 => ?_)
    · refine wp_exit ?_
      refine then_e ?_
      refine blk_hit ?_
      refine then_n ?_
      refine one_reg ?_
      refine o_add (r := ((k + 1 : Nat) : Int)) rfl rfl (nw (by omega) (by omega) (by omega)) ?_
      refine o_move (v := (.int .i64 ((k + 1 : Nat) : Int))) rfl ?_
      refine wpList_nil ?_
      refine then_n ?_
      have hE := Sp.runs_no ht2
      exact ⟨_, _, rfl, ⟨k + 1, v, _, rfl, (upd_in rfl (upd_in rfl (upd_in rfl rfl))), (by rw [hE]; simpa using hS2), hone, by omega⟩, by omega⟩
    · refine wp_skip ?_
      refine then_n ?_
      refine seq_reg ?_
      refine o_move (v := v) rfl ?_
      refine o_len_vec hS2 rfl (i := 0) rfl Try.underlying24 ?_
      refine o_assign (v := (.int .i64 (((Sp.runs p k).length : Nat) : Int))) rfl ?_
      refine wpList_nil ?_
      refine then_n ?_
      refine seq_reg ?_
      refine o_move (v := (.int .i64 (((Sp.runs p k).length : Nat) : Int))) rfl ?_
      refine o_gtr (r := (decide ((0 : Int) < (((Sp.runs p k).length : Nat) : Int)))) rfl rfl rfl ?_
      by_cases hb1 : (0 : Int) < (((Sp.runs p k).length : Nat) : Int)
      · refine o_move (v := (.bool true)) (congrArg Value.bool (decide_eq_true hb1)) ?_
        refine o_on rfl rfl ?_
        refine o_move (v := v) rfl ?_
        refine o_on rfl rfl ?_
        refine o_move (v := (.int .i64 (((Sp.runs p k).length : Nat) : Int))) rfl ?_
        refine o_on rfl rfl ?_
        refine o_sub (r := ((((Sp.runs p k).length : Nat) : Int) - (1 : Int))) rfl rfl (nw (by omega) (by omega) (by omega)) ?_
        refine o_on rfl rfl ?_
        obtain ⟨g1, cp1, rfl⟩ := vec_pos (hS2.get (i := 0) rfl) (by omega)
        refine o_iaddr_slice (k := ((Sp.runs p k).length - 1)) (a' := ⟨g1, ((Sp.runs p k).length - 1) * 2, none⟩) rfl rfl (by omega) (by omega) Try.underlying24 Try.sizeOf37 (by simp [addr_lit]) ?_
        refine o_on rfl rfl ?_
        refine o_faddr (a' := ⟨g1, ((Sp.runs p k).length - 1) * 2 + 1, none⟩) rfl Try.underlying37 rfl Try.sizeOf3 rfl ?_
        refine o_on rfl rfl ?_
        obtain ⟨x1, hx1⟩ := getq (l := Sp.runs p k) (k := ((Sp.runs p k).length - 1)) (by omega)
        refine o_load (v := (.int .i64 x1.2)) rfl Try.isAgg3 (vec_cell encSp_len (j := 1) (hS2.get (i := 0) rfl) hx1 rfl) ?_
        refine o_on rfl rfl ?_
        refine o_move (v := (.int .i64 ((k : Nat) : Int))) rfl ?_
        refine o_on rfl rfl ?_
        refine o_eql (r := (decide (x1.2 = ((k : Nat) : Int)))) rfl rfl rfl ?_
        refine o_pick_t (v := (.bool (decide (x1.2 = ((k : Nat) : Int))))) rfl rfl ?_
        refine wpList_nil ?_
        refine then_n ?_
        refine if_d (x1.2 = ((k : Nat) : Int)) rfl (fun ht3 => ?_) (fun ht3 => ?_)
        · refine one_reg ?_
          refine o_move (v := (.slice (some ⟨g1, 0, none⟩) (Sp.runs p k).length cp1)) rfl ?_
          refine o_move (v := (.int .i64 (((Sp.runs p k).length : Nat) : Int))) rfl ?_
          refine o_sub (r := ((((Sp.runs p k).length : Nat) : Int) - (1 : Int))) rfl rfl (nw (by omega) (by omega) (by omega)) ?_
          refine o_move (v := (.int .i64 ((k : Nat) : Int))) rfl ?_
          refine o_add (r := ((k + 1 : Nat) : Int)) rfl rfl (nw (by omega) (by omega) (by omega)) ?_
          refine o_iaddr_slice (k := ((Sp.runs p k).length - 1)) (a' := ⟨g1, ((Sp.runs p k).length - 1) * 2, none⟩) rfl rfl (by omega) (by omega) Try.underlying24 Try.sizeOf37 (by simp [addr_lit]) ?_
          refine o_faddr (a' := ⟨g1, ((Sp.runs p k).length - 1) * 2 + 1, none⟩) rfl Try.underlying37 rfl Try.sizeOf3 rfl ?_
          refine o_store_vec (xs' := ((Sp.runs p k).set ((Sp.runs p k).length - 1) (x1.1, ((k + 1 : Nat) : Int))).flatMap encSp) (ms' := [vec (.slice (some ⟨g1, 0, none⟩) (Sp.runs p k).length cp1) 37 2 ((Sp.runs p k).length) (((Sp.runs p k).set ((Sp.runs p k).length - 1) (x1.1, ((k + 1 : Nat) : Int))).flatMap encSp), O (k + 1)]) (vs := [(.int .i64 ((k + 1 : Nat) : Int))]) (i := 0) hS2 rfl rfl rfl Try.sizeOf3 rfl (ones rfl) rfl (by omega) (flat_set encSp_len hx1 rfl (Nat.le_of_ble_eq_true rfl)) rfl ?_
          intro w3 hS3
          refine wpList_nil ?_
          refine blk_n ?_
          refine then_n ?_
          refine one_reg ?_
          refine o_add (r := ((k + 1 : Nat) : Int)) rfl rfl (nw (by omega) (by omega) (by omega)) ?_
          refine o_move (v := (.int .i64 ((k + 1 : Nat) : Int))) rfl ?_
          refine wpList_nil ?_
          refine then_n ?_
          have hE := Sp.runs_ext ht2 hx1 ht3
          exact ⟨_, _, rfl, ⟨k + 1, (.slice (some ⟨g1, 0, none⟩) (Sp.runs p k).length cp1), _, rfl, (upd_in rfl (upd_in rfl (upd_in rfl rfl))), (by rw [hE]; simpa using hS3), rfl, by omega⟩, by omega⟩
        · refine one_reg ?_
          refine o_move (v := (.slice (some ⟨g1, 0, none⟩) (Sp.runs p k).length cp1)) rfl ?_
          refine o_move (v := (.int .i64 ((k : Nat) : Int))) rfl ?_
          refine o_move (v := (.int .i64 ((k : Nat) : Int))) rfl ?_
          refine o_add (r := ((k + 1 : Nat) : Int)) rfl rfl (nw (by omega) (by omega) (by omega)) ?_
          refine o_build (v := (.agg #[(.int .i64 ((k : Nat) : Int)), (.int .i64 ((k + 1 : Nat) : Int))])) (fun _ => by kernel_rfl) ?_
          refine o_bslice (cs := [(.int .i64 ((k : Nat) : Int)), (.int .i64 ((k + 1 : Nat) : Int))]) (e := 37) hS2 (fun _ => by kernel_rfl) ?_
          intro b1 w4 hS4
          refine o_append (Ms := fun v1 => [blk b1 37 [(.int .i64 ((k : Nat) : Int)), (.int .i64 ((k + 1 : Nat) : Int))], vec v1 37 2 ((Sp.runs p k).length + 1) ((Sp.runs p k ++ [(((k : Nat) : Int), ((k + 1 : Nat) : Int))]).flatMap encSp), O (k + 1)]) (xs' := (Sp.runs p k ++ [(((k : Nat) : Int), ((k + 1 : Nat) : Int))]).flatMap encSp) Try.underlying24 Try.type37 rfl rfl (bytes := 16) rfl rfl (Nat.succ_pos _) hS4 rfl (q := 1) rfl rfl rfl (blk_row (hS4.get (i := 0) rfl)) (ones rfl) (by omega) (by unfold maxLen; omega) (flat_snoc _ (((k : Nat) : Int), ((k + 1 : Nat) : Int))) (fun _ => rfl) ?_
          intro v1 w5 ho2 hS5
          have hS6 := hS5.drop 0 (ms' := [vec v1 37 2 ((Sp.runs p k).length + 1) ((Sp.runs p k ++ [(((k : Nat) : Int), ((k + 1 : Nat) : Int))]).flatMap encSp), O (k + 1)]) rfl
          refine o_assign (v := v1) rfl ?_
          refine wpList_nil ?_
          refine blk_n ?_
          refine then_n ?_
          refine one_reg ?_
          refine o_add (r := ((k + 1 : Nat) : Int)) rfl rfl (nw (by omega) (by omega) (by omega)) ?_
          refine o_move (v := (.int .i64 ((k + 1 : Nat) : Int))) rfl ?_
          refine wpList_nil ?_
          refine then_n ?_
          have hE := Sp.runs_new ht2 (fun s hs => by rw [hx1] at hs; cases hs; exact ht3)
          exact ⟨_, _, rfl, ⟨k + 1, v1, _, rfl, (upd_in rfl (upd_in rfl (upd_in rfl rfl))), (by rw [hE]; simpa using hS6), ho2, by omega⟩, by omega⟩
      · refine o_move (v := (.bool false)) (congrArg Value.bool (decide_eq_false hb1)) ?_
        refine o_off rfl rfl ?_
        refine o_off rfl rfl ?_
        refine o_off rfl rfl ?_
        refine o_off rfl rfl ?_
        refine o_off rfl rfl ?_
        refine o_off rfl rfl ?_
        refine o_off rfl rfl ?_
        refine o_off rfl rfl ?_
        refine o_pick_f (v := (.bool false)) rfl rfl ?_
        refine wpList_nil ?_
        refine then_n ?_
        refine if_f rfl ?_
        refine one_reg ?_
        refine o_move (v := v) rfl ?_
        refine o_move (v := (.int .i64 ((k : Nat) : Int))) rfl ?_
        refine o_move (v := (.int .i64 ((k : Nat) : Int))) rfl ?_
        refine o_add (r := ((k + 1 : Nat) : Int)) rfl rfl (nw (by omega) (by omega) (by omega)) ?_
        refine o_build (v := (.agg #[(.int .i64 ((k : Nat) : Int)), (.int .i64 ((k + 1 : Nat) : Int))])) (fun _ => by kernel_rfl) ?_
        refine o_bslice (cs := [(.int .i64 ((k : Nat) : Int)), (.int .i64 ((k + 1 : Nat) : Int))]) (e := 37) hS2 (fun _ => by kernel_rfl) ?_
        intro b2 w6 hS7
        refine o_append (Ms := fun v2 => [blk b2 37 [(.int .i64 ((k : Nat) : Int)), (.int .i64 ((k + 1 : Nat) : Int))], vec v2 37 2 ((Sp.runs p k).length + 1) ((Sp.runs p k ++ [(((k : Nat) : Int), ((k + 1 : Nat) : Int))]).flatMap encSp), O (k + 1)]) (xs' := (Sp.runs p k ++ [(((k : Nat) : Int), ((k + 1 : Nat) : Int))]).flatMap encSp) Try.underlying24 Try.type37 rfl rfl (bytes := 16) rfl rfl (Nat.succ_pos _) hS7 rfl (q := 1) rfl rfl rfl (blk_row (hS7.get (i := 0) rfl)) (ones rfl) (by omega) (by unfold maxLen; omega) (flat_snoc _ (((k : Nat) : Int), ((k + 1 : Nat) : Int))) (fun _ => rfl) ?_
        intro v2 w7 ho3 hS8
        have hS9 := hS8.drop 0 (ms' := [vec v2 37 2 ((Sp.runs p k).length + 1) ((Sp.runs p k ++ [(((k : Nat) : Int), ((k + 1 : Nat) : Int))]).flatMap encSp), O (k + 1)]) rfl
        refine o_assign (v := v2) rfl ?_
        refine wpList_nil ?_
        refine blk_n ?_
        refine then_n ?_
        refine one_reg ?_
        refine o_add (r := ((k + 1 : Nat) : Int)) rfl rfl (nw (by omega) (by omega) (by omega)) ?_
        refine o_move (v := (.int .i64 ((k + 1 : Nat) : Int))) rfl ?_
        refine wpList_nil ?_
        refine then_n ?_
        have hE := Sp.runs_new ht2 (fun s hs => by have := lt_of_getq hs; omega)
        exact ⟨_, _, rfl, ⟨k + 1, v2, _, rfl, (upd_in rfl (upd_in rfl (upd_in rfl rfl))), (by rw [hE]; simpa using hS9), ho3, by omega⟩, by omega⟩
  · refine wp_exit ?_
    refine then_e ?_
    refine then_e ?_
    refine blk_hit ?_
    refine then_n ?_
    refine seq_reg ?_
    refine o_move (v := v) rfl ?_
    refine o_assign (v := v) rfl ?_
    refine wpList_nil ?_
    refine then_n ?_
    refine wp_ret ?_
    refine ret1 rfl (show ev _ _ _ = v from rfl) ?_
    obtain rfl : k = 10000 := by omega
    obtain ⟨σ1, hS10, hsub1, hfr1⟩ := hS1.freezeM (i := 0) (j := 1) rfl rfl (by decide) (by show (O 0).foot.toList = _; rw [hfo, hfo]) rfl
    have hb := Sp.runs_len p 10000
    have hd := hS10.done
    rw [show (O 0).foot = bo from hfo 0] at hd
    exact ⟨v, σ1, rfl, hd, RSl.ofVecEnc encSp_len (hS1.get (i := 0) rfl) hfr1 rfl (by omega), hS10.get (i := 0) rfl⟩


end Go.Proofs.Ytddgjdaobcbcaaa
