/- What a call answers, and that it leaves the memory that was there as it was: flagstone/flagstonedata.Links. Conditions: those of each statement (that the arguments can be read). -/
import Derived.Test.YtehmnkholidanaaRows
import Derived.Test.YtehmnkholidanaaFlSort
import Derived.Test.YtehmnkholidanaaShelf
import Derived.KernelRfl
import Derived.Test.YtehmnkholidanaaA5
namespace Go.Proofs.Ytehmnkholidanaa
open Go Go.RowKit Go.Fl

theorem c_Links {σ : Hv} {w : World} (v : Value) (l : List UInt8) (o : Bool) (hV : View σ w) (hv : RSl 1 RU8 σ v l) :
    Calls Try.prog 12 #[v, (.bool (o))] w fun e w1 => ∃ (v1 : Value) (l1 : List Lk.L3) (σ1 : Hv), e = .returned v1 ∧ Grow [] σ w σ1 w1 ∧ RSl 3 (REnc encLk) σ1 v1 l1 ∧ l1.length ≤ 30 ∧ ∀ e ∈ l1, e.1 ∈ ids6 ∧ e.2.1 ∈ ids6 := by
  refine enter Try.func12 rfl rfl rfl ?_
  have hS := St.start hV
  obtain ⟨a, cap, rfl, h1, h2, hel⟩ := id hv
  refine seq_reg ?_
  refine o_assign (v := (.slice none 0 0)) rfl ?_
  refine wpList_nil ?_
  refine then_n ?_
  refine seq_reg ?_
  refine o_move (v := (.slice a l.length cap)) rfl ?_
  refine o_build (v := (.agg #[(.slice a l.length cap), (.int .i64 (0 : Int))])) (fun _ => by kernel_rfl) ?_
  refine o_box (cs := [(.slice a l.length cap), (.int .i64 (0 : Int))]) hS rfl rfl ?_
  intro b1 w1 hS1
  refine o_assign (v := (.pointer (some ⟨b1, 0, none⟩))) rfl ?_
  refine wpList_nil ?_
  refine then_n ?_
  refine seq_reg ?_
  refine o_assign (v := (.slice none 0 0)) rfl ?_
  refine wpList_nil ?_
  refine then_n ?_
  refine seq_reg ?_
  refine o_assign (v := (.int .i64 (0 : Int))) rfl ?_
  refine wpList_nil ?_
  refine then_n ?_
  refine wp_seq ?_
  refine wp_block ?_
  have hS2 := hS1.step (i := 0) (o' := cod 46 σ b1 l.length 0) (ms' := [cod 46 σ b1 l.length 0]) rfl (Keeps.refl _ _) ⟨_, l, rfl, hv, Nat.zero_le _, hS1.get (i := 0) rfl⟩ (fun k hk => .inl hk) rfl hS1.view.none_of_ge
  have hSn := hS2.addNil 28 3
  refine loop (fun m f z => ∃ (k : Nat) (v1 : Value) (l1 : List Lk.L3) (t : Nat) (g : Fr), m = l.length - k ∧ f = (upd (upd (upd (upd g 1 (.bool (o))) 5 (.pointer (some ⟨b1, 0, none⟩))) 6 v1) 7 (.int .i64 ((t : Nat) : Int))) ∧ St ⟨w, σ, []⟩ z σ [vec v1 28 3 l1.length ((l1).flatMap encLk), cod 46 σ b1 l.length k] ∧ (k ≤ l.length) ∧ (v1.oneCell' = true) ∧ (∀ e ∈ l1, e.1 ∈ ids6 ∧ e.2.1 ∈ ids6) ∧ (l1.length ≤ 30) ∧ (t ≤ 3 * k)) (m0 := _) ⟨0, _, [], 0, _, rfl, (upd_in rfl (upd_in rfl (upd_in rfl (upd_in rfl rfl)))), hSn, Nat.zero_le _, rfl, by simp, by simp, by omega⟩ ?_
  rintro _ _ w2 ⟨k, v1, l1, t, g, rfl, rfl, hS3, hk, hone, hmem, hll, htm⟩
  refine wp_seq ?_
  refine seq_reg ?_
  refine o_move (v := (.pointer (some ⟨b1, 0, none⟩))) rfl ?_
  refine o_call (args := [(.pointer (some ⟨b1, 0, none⟩))]) rfl Try.call29 (Calls.mono (c_Left b1 l.length k hS3.view (Sub.refl _) (hS3.get (i := 1) rfl) (hS3.off _ (List.mem_of_getElem? (i := 1) rfl) _ rfl)) ?_)
  rintro _ w3 ⟨rfl, hg1, hb1⟩
  refine ⟨_, rfl, ?_⟩
  have hS4 := hS3.growM hg1 (i := 1) (o' := cod 46 σ b1 l.length k) rfl rfl rfl (HObj.stay _ _ _ (by rintro k ⟨⟩; exact hb1) (hS3.get (i := 1) rfl)) (ms' := [vec v1 28 3 l1.length ((l1).flatMap encLk), cod 46 σ b1 l.length k]) rfl
  by_cases hb2 : k < l.length
  · refine o_move (v := (.bool true)) (congrArg Value.bool (decide_eq_true hb2)) ?_
    refine o_on rfl rfl ?_
    refine o_move (v := v1) rfl ?_
    refine o_on rfl rfl ?_
    refine o_len_vec hS4 rfl (i := 0) rfl Try.underlying24 ?_
    refine o_on rfl rfl ?_
    refine o_lss (r := (decide (((l1.length : Nat) : Int) < (30 : Int)))) rfl rfl rfl ?_
    refine o_pick_t (v := (.bool (decide (((l1.length : Nat) : Int) < (30 : Int))))) rfl rfl ?_
    refine wpList_nil ?_
    refine then_n ?_
    refine if_d (((l1.length : Nat) : Int) < (30 : Int)) rfl (fun ht1 => ?_) (fun ht1 => ?_)
    · refine wp_skip ?_
      refine then_n ?_
      refine wp_block ?_
      refine seq_reg ?_
      refine o_move (v := (.pointer (some ⟨b1, 0, none⟩))) rfl ?_
      refine o_call (args := [(.pointer (some ⟨b1, 0, none⟩)), (.int .i64 (6 : Int))]) rfl Try.call30 (Calls.mono (c_Next b1 l.length k (6 : Int) hS4.view (Sub.refl _) (hS4.get (i := 1) rfl) (hS4.off _ (List.mem_of_getElem? (i := 1) rfl) _ rfl) (by omega)) ?_)
      rintro _ w4 ⟨r1, k1, rfl, hr1, hk1, hkk1, hl1, hg2, ho1⟩
      refine ⟨_, rfl, ?_⟩
      have hS5 := hS4.growM hg2 (i := 1) (o' := cod 46 σ b1 l.length k1) rfl rfl rfl ho1 (ms' := [vec v1 28 3 l1.length ((l1).flatMap encLk), cod 46 σ b1 l.length k1]) rfl
      refine o_move (v := (.pointer (some ⟨b1, 0, none⟩))) rfl ?_
      refine o_call (args := [(.pointer (some ⟨b1, 0, none⟩)), (.int .i64 (6 : Int))]) rfl Try.call30 (Calls.mono (c_Next b1 l.length k1 (6 : Int) hS5.view (Sub.refl _) (hS5.get (i := 1) rfl) (hS5.off _ (List.mem_of_getElem? (i := 1) rfl) _ rfl) (by omega)) ?_)
      rintro _ w5 ⟨r2, k2, rfl, hr2, hk2, hkk2, hl2, hg3, ho2⟩
      refine ⟨_, rfl, ?_⟩
      have hS6 := hS5.growM hg3 (i := 1) (o' := cod 46 σ b1 l.length k2) rfl rfl rfl ho2 (ms' := [vec v1 28 3 l1.length ((l1).flatMap encLk), cod 46 σ b1 l.length k2]) rfl
      refine o_assign (v := (.int .i64 ((r1 : Nat) : Int))) rfl ?_
      refine o_assign (v := (.int .i64 ((r2 : Nat) : Int))) rfl ?_
      refine wpList_nil ?_
      refine then_n ?_
      refine seq_reg ?_
      refine o_move (v := (.int .i64 ((t : Nat) : Int))) rfl ?_
      refine o_move (v := (.pointer (some ⟨b1, 0, none⟩))) rfl ?_
      refine o_call (args := [(.pointer (some ⟨b1, 0, none⟩)), (.int .i64 (3 : Int))]) rfl Try.call30 (Calls.mono (c_Next b1 l.length k2 (3 : Int) hS6.view (Sub.refl _) (hS6.get (i := 1) rfl) (hS6.off _ (List.mem_of_getElem? (i := 1) rfl) _ rfl) (by omega)) ?_)
      rintro _ w6 ⟨r3, k3, rfl, hr3, hk3, hkk3, hl3, hg4, ho3⟩
      refine ⟨_, rfl, ?_⟩
      have hS7 := hS6.growM hg4 (i := 1) (o' := cod 46 σ b1 l.length k3) rfl rfl rfl ho3 (ms' := [vec v1 28 3 l1.length ((l1).flatMap encLk), cod 46 σ b1 l.length k3]) rfl
      refine o_add (r := ((t + r3 : Nat) : Int)) rfl rfl (nw (by omega) (by omega) (by omega)) ?_
      refine o_assign (v := (.int .i64 ((t + r3 : Nat) : Int))) rfl ?_
      refine wpList_nil ?_
      refine then_n ?_
      refine wp_seq ?_
      refine seq_reg ?_
      refine o_move (v := (.int .i64 ((r1 : Nat) : Int))) rfl ?_
      refine o_move (v := (.int .i64 ((r2 : Nat) : Int))) rfl ?_
      refine o_eql (r := (decide (((r1 : Nat) : Int) = ((r2 : Nat) : Int)))) rfl rfl rfl ?_
      by_cases hb3 : ((r1 : Nat) : Int) = ((r2 : Nat) : Int)
      · refine o_move (v := (.bool true)) (congrArg Value.bool (decide_eq_true hb3)) ?_
        refine o_on rfl rfl ?_
        refine o_move (v := (.bool (o))) rfl ?_
        refine o_on rfl rfl ?_
        refine o_not (r := (!o)) rfl rfl ?_
        refine o_pick_t (v := (.bool (!o))) rfl rfl ?_
        refine wpList_nil ?_
        refine then_n ?_
        refine if_nb rfl (fun ht2 => ?_) (fun ht2 => ?_)
        · refine one_reg ?_
          refine o_move (v := (.int .i64 ((r1 : Nat) : Int))) rfl ?_
          refine o_add (r := ((r1 + 1 : Nat) : Int)) rfl rfl (nw (by omega) (by omega) (by omega)) ?_
          obtain ⟨r4, hr4, hr5⟩ := tmod_nat (r1 + 1) (m := (6 : Int)) (by omega)
          refine o_rem (r := ((r4 : Nat) : Int)) rfl rfl (by omega) hr4 ?_
          refine o_assign (v := (.int .i64 ((r4 : Nat) : Int))) rfl ?_
          refine wpList_nil ?_
          refine then_n ?_
          refine one_reg ?_
          refine o_move (v := v1) rfl ?_
          refine o_move (v := (.int .i64 ((r1 : Nat) : Int))) rfl ?_
          refine o_call (args := [(.int .i64 ((r1 : Nat) : Int))]) rfl Try.call13 (Calls.mono (c_Id r1 hS7.view) ?_)
          rintro _ w7 ⟨s1, rfl, hm1, hg5⟩
          refine ⟨_, rfl, ?_⟩
          have hS8 := hS7.grow hg5
          refine o_move (v := (.int .i64 ((r4 : Nat) : Int))) rfl ?_
          refine o_call (args := [(.int .i64 ((r4 : Nat) : Int))]) rfl Try.call13 (Calls.mono (c_Id r4 hS8.view) ?_)
          rintro _ w8 ⟨s2, rfl, hm2, hg6⟩
          refine ⟨_, rfl, ?_⟩
          have hS9 := hS8.grow hg6
          refine o_move (v := (.int .i64 ((t + r3 : Nat) : Int))) rfl ?_
          refine o_build (v := (.agg #[(.string s1), (.string s2), (.int .i64 ((t + r3 : Nat) : Int))])) (fun _ => by kernel_rfl) ?_
          refine o_bslice (cs := [(.string s1), (.string s2), (.int .i64 ((t + r3 : Nat) : Int))]) (e := 28) hS9 (fun _ => by kernel_rfl) ?_
          intro b2 w9 hS10
          refine o_append (Ms := fun v1 => [blk b2 28 [(.string s1), (.string s2), (.int .i64 ((t + r3 : Nat) : Int))], vec v1 28 3 (l1.length + 1) ((l1 ++ [(s1, s2, ((t + r3 : Nat) : Int))]).flatMap encLk), cod 46 σ b1 l.length k3]) (xs' := (l1 ++ [(s1, s2, ((t + r3 : Nat) : Int))]).flatMap encLk) Try.underlying24 Try.type28 rfl rfl (bytes := 40) rfl rfl (Nat.succ_pos _) hS10 rfl (q := 1) rfl rfl rfl (blk_row (hS10.get (i := 0) rfl)) (ones rfl) (by omega) (by unfold maxLen; omega) (flat_snoc _ (s1, s2, ((t + r3 : Nat) : Int))) (fun _ => rfl) ?_
          intro v1 w10 ho4 hS11
          have hS12 := hS11.drop 0 (ms' := [vec v1 28 3 (l1.length + 1) ((l1 ++ [(s1, s2, ((t + r3 : Nat) : Int))]).flatMap encLk), cod 46 σ b1 l.length k3]) rfl
          refine o_assign (v := v1) rfl ?_
          refine wpList_nil ?_
          refine blk_n ?_
          refine then_n ?_
          exact ⟨_, _, rfl, ⟨k3, v1, l1 ++ [(s1, s2, ((t + r3 : Nat) : Int))], t + r3, _, rfl, (upd_in rfl (upd_in rfl (upd_in rfl (upd_in rfl rfl)))), (by simpa using hS12), by omega, ho4, by intro e he; rcases List.mem_append.1 he with he | he; exact hmem e he; simp only [List.mem_singleton] at he; subst he; exact ⟨hm1, hm2⟩, by simp; omega, by omega⟩, by omega⟩
        · refine wp_skip ?_
          refine then_n ?_
          refine one_reg ?_
          refine o_move (v := v1) rfl ?_
          refine o_move (v := (.int .i64 ((r1 : Nat) : Int))) rfl ?_
          refine o_call (args := [(.int .i64 ((r1 : Nat) : Int))]) rfl Try.call13 (Calls.mono (c_Id r1 hS7.view) ?_)
          rintro _ w11 ⟨s3, rfl, hm3, hg7⟩
          refine ⟨_, rfl, ?_⟩
          have hS13 := hS7.grow hg7
          refine o_move (v := (.int .i64 ((r2 : Nat) : Int))) rfl ?_
          refine o_call (args := [(.int .i64 ((r2 : Nat) : Int))]) rfl Try.call13 (Calls.mono (c_Id r2 hS13.view) ?_)
          rintro _ w12 ⟨s4, rfl, hm4, hg8⟩
          refine ⟨_, rfl, ?_⟩
          have hS14 := hS13.grow hg8
          refine o_move (v := (.int .i64 ((t + r3 : Nat) : Int))) rfl ?_
          refine o_build (v := (.agg #[(.string s3), (.string s4), (.int .i64 ((t + r3 : Nat) : Int))])) (fun _ => by kernel_rfl) ?_
          refine o_bslice (cs := [(.string s3), (.string s4), (.int .i64 ((t + r3 : Nat) : Int))]) (e := 28) hS14 (fun _ => by kernel_rfl) ?_
          intro b3 w13 hS15
          refine o_append (Ms := fun v2 => [blk b3 28 [(.string s3), (.string s4), (.int .i64 ((t + r3 : Nat) : Int))], vec v2 28 3 (l1.length + 1) ((l1 ++ [(s3, s4, ((t + r3 : Nat) : Int))]).flatMap encLk), cod 46 σ b1 l.length k3]) (xs' := (l1 ++ [(s3, s4, ((t + r3 : Nat) : Int))]).flatMap encLk) Try.underlying24 Try.type28 rfl rfl (bytes := 40) rfl rfl (Nat.succ_pos _) hS15 rfl (q := 1) rfl rfl rfl (blk_row (hS15.get (i := 0) rfl)) (ones rfl) (by omega) (by unfold maxLen; omega) (flat_snoc _ (s3, s4, ((t + r3 : Nat) : Int))) (fun _ => rfl) ?_
          intro v2 w14 ho5 hS16
          have hS17 := hS16.drop 0 (ms' := [vec v2 28 3 (l1.length + 1) ((l1 ++ [(s3, s4, ((t + r3 : Nat) : Int))]).flatMap encLk), cod 46 σ b1 l.length k3]) rfl
          refine o_assign (v := v2) rfl ?_
          refine wpList_nil ?_
          refine blk_n ?_
          refine then_n ?_
          exact ⟨_, _, rfl, ⟨k3, v2, l1 ++ [(s3, s4, ((t + r3 : Nat) : Int))], t + r3, _, rfl, (upd_in rfl (upd_in rfl (upd_in rfl (upd_in rfl rfl)))), (by simpa using hS17), by omega, ho5, by intro e he; rcases List.mem_append.1 he with he | he; exact hmem e he; simp only [List.mem_singleton] at he; subst he; exact ⟨hm3, hm4⟩, by simp; omega, by omega⟩, by omega⟩
      · refine o_move (v := (.bool false)) (congrArg Value.bool (decide_eq_false hb3)) ?_
        refine o_off rfl rfl ?_
        refine o_off rfl rfl ?_
        refine o_pick_f (v := (.bool false)) rfl rfl ?_
        refine wpList_nil ?_
        refine then_n ?_
        refine if_f rfl ?_
        refine wp_skip ?_
        refine then_n ?_
        refine one_reg ?_
        refine o_move (v := v1) rfl ?_
        refine o_move (v := (.int .i64 ((r1 : Nat) : Int))) rfl ?_
        refine o_call (args := [(.int .i64 ((r1 : Nat) : Int))]) rfl Try.call13 (Calls.mono (c_Id r1 hS7.view) ?_)
        rintro _ w15 ⟨s5, rfl, hm5, hg9⟩
        refine ⟨_, rfl, ?_⟩
        have hS18 := hS7.grow hg9
        refine o_move (v := (.int .i64 ((r2 : Nat) : Int))) rfl ?_
        refine o_call (args := [(.int .i64 ((r2 : Nat) : Int))]) rfl Try.call13 (Calls.mono (c_Id r2 hS18.view) ?_)
        rintro _ w16 ⟨s6, rfl, hm6, hg10⟩
        refine ⟨_, rfl, ?_⟩
        have hS19 := hS18.grow hg10
        refine o_move (v := (.int .i64 ((t + r3 : Nat) : Int))) rfl ?_
        refine o_build (v := (.agg #[(.string s5), (.string s6), (.int .i64 ((t + r3 : Nat) : Int))])) (fun _ => by kernel_rfl) ?_
        refine o_bslice (cs := [(.string s5), (.string s6), (.int .i64 ((t + r3 : Nat) : Int))]) (e := 28) hS19 (fun _ => by kernel_rfl) ?_
        intro b4 w17 hS20
        refine o_append (Ms := fun v3 => [blk b4 28 [(.string s5), (.string s6), (.int .i64 ((t + r3 : Nat) : Int))], vec v3 28 3 (l1.length + 1) ((l1 ++ [(s5, s6, ((t + r3 : Nat) : Int))]).flatMap encLk), cod 46 σ b1 l.length k3]) (xs' := (l1 ++ [(s5, s6, ((t + r3 : Nat) : Int))]).flatMap encLk) Try.underlying24 Try.type28 rfl rfl (bytes := 40) rfl rfl (Nat.succ_pos _) hS20 rfl (q := 1) rfl rfl rfl (blk_row (hS20.get (i := 0) rfl)) (ones rfl) (by omega) (by unfold maxLen; omega) (flat_snoc _ (s5, s6, ((t + r3 : Nat) : Int))) (fun _ => rfl) ?_
        intro v3 w18 ho6 hS21
        have hS22 := hS21.drop 0 (ms' := [vec v3 28 3 (l1.length + 1) ((l1 ++ [(s5, s6, ((t + r3 : Nat) : Int))]).flatMap encLk), cod 46 σ b1 l.length k3]) rfl
        refine o_assign (v := v3) rfl ?_
        refine wpList_nil ?_
        refine blk_n ?_
        refine then_n ?_
        exact ⟨_, _, rfl, ⟨k3, v3, l1 ++ [(s5, s6, ((t + r3 : Nat) : Int))], t + r3, _, rfl, (upd_in rfl (upd_in rfl (upd_in rfl (upd_in rfl rfl)))), (by simpa using hS22), by omega, ho6, by intro e he; rcases List.mem_append.1 he with he | he; exact hmem e he; simp only [List.mem_singleton] at he; subst he; exact ⟨hm5, hm6⟩, by simp; omega, by omega⟩, by omega⟩
    · refine wp_exit ?_
      refine then_e ?_
      refine then_e ?_
      refine blk_hit ?_
      refine then_n ?_
      refine seq_reg ?_
      refine o_move (v := v1) rfl ?_
      refine o_assign (v := v1) rfl ?_
      refine wpList_nil ?_
      refine then_n ?_
      refine wp_ret ?_
      refine ret1 rfl (show ev _ _ _ = v1 from rfl) ?_
      obtain ⟨σ1, hS23, hsub1, hfr1⟩ := hS4.freeze (i := 0) rfl rfl rfl
      exact ⟨v1, l1, σ1, rfl, hS23.done, RSl.ofVecEnc encLk_len (hS4.get (i := 0) rfl) hfr1 rfl (by omega), hll, hmem⟩
  · refine o_move (v := (.bool false)) (congrArg Value.bool (decide_eq_false hb2)) ?_
    refine o_off rfl rfl ?_
    refine o_off rfl rfl ?_
    refine o_off rfl rfl ?_
    refine o_pick_f (v := (.bool false)) rfl rfl ?_
    refine wpList_nil ?_
    refine then_n ?_
    refine if_f rfl ?_
    refine wp_exit ?_
    refine then_e ?_
    refine then_e ?_
    refine blk_hit ?_
    refine then_n ?_
    refine seq_reg ?_
    refine o_move (v := v1) rfl ?_
    refine o_assign (v := v1) rfl ?_
    refine wpList_nil ?_
    refine then_n ?_
    refine wp_ret ?_
    refine ret1 rfl (show ev _ _ _ = v1 from rfl) ?_
    obtain ⟨σ2, hS24, hsub2, hfr2⟩ := hS4.freeze (i := 0) rfl rfl rfl
    exact ⟨v1, l1, σ2, rfl, hS24.done, RSl.ofVecEnc encLk_len (hS4.get (i := 0) rfl) hfr2 rfl (by omega), hll, hmem⟩


end Go.Proofs.Ytehmnkholidanaa
