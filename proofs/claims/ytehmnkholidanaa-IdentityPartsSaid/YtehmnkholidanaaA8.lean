/- What a call answers, and that it leaves the memory that was there as it was: flagstone/flagstoneref26.insert. Conditions: those of each statement (that the arguments can be read). -/
import Derived.Test.YtehmnkholidanaaRows
import Derived.Test.YtehmnkholidanaaFlSort
import Derived.Test.YtehmnkholidanaaShelf
import Derived.KernelRfl
namespace Go.Proofs.Ytehmnkholidanaa
open Go Go.RowKit Go.Fl

theorem r_insert {σ : Hv} {w : World} (v : Value) (l : List ByteArray) (s : ByteArray) (hV : View σ w) (hv : RSl 1 (REnc encTx) σ v l) (hasc : Lk.Asc l) (hns : s ∉ l) (hlen : l.length ≤ 10000) :
    Calls Try.prog 38 #[v, (.string s)] w fun e w1 => ∃ (v1 : Value) (l1 : List ByteArray) (σ1 : Hv), e = .returned v1 ∧ Grow [] σ w σ1 w1 ∧ RSl 1 (REnc encTx) σ1 v1 l1 ∧ Lk.Asc l1 ∧ (∀ y, y ∈ l1 ↔ y = s ∨ y ∈ l) ∧ l1.length = l.length + 1 := by
  refine enter Try.func38 rfl rfl rfl ?_
  obtain ⟨a, cap, rfl, h1, h2, hel⟩ := id hv
  have hS := St.start hV
  refine seq_reg ?_
  refine o_assign (v := (.slice none 0 0)) rfl ?_
  refine wpList_nil ?_
  refine then_n ?_
  refine seq_reg ?_
  refine o_assign (v := (.int .i64 (0 : Int))) rfl ?_
  refine wpList_nil ?_
  refine then_n ?_
  refine wp_seq ?_
  refine wp_block ?_
  refine loop (fun m f z => ∃ (k : Nat) (g : Fr), m = l.length - k ∧ f = (upd (upd (upd g 0 (.slice a l.length cap)) 1 (.string s)) 5 (.int .i64 ((k : Nat) : Int))) ∧ St ⟨w, σ, []⟩ z σ [] ∧ (k ≤ l.length) ∧ (∀ y ∈ l.take k, Lk.blt y s)) (m0 := _) ⟨0, _, rfl, (upd_in rfl (upd_in rfl (upd_in rfl rfl))), hS, Nat.zero_le _, by simp⟩ ?_
  rintro _ _ w1 ⟨k, g, rfl, rfl, hS1, hk, hbl⟩
  refine wp_seq ?_
  refine seq_reg ?_
  refine o_move (v := (.int .i64 ((k : Nat) : Int))) rfl ?_
  refine o_move (v := (.slice a l.length cap)) rfl ?_
  refine o_len_slice rfl Try.underlying29 ?_
  refine o_lss (r := (decide (((k : Nat) : Int) < ((l.length : Nat) : Int)))) rfl rfl rfl ?_
  by_cases hb1 : ((k : Nat) : Int) < ((l.length : Nat) : Int)
  · refine o_move (v := (.bool true)) (congrArg Value.bool (decide_eq_true hb1)) ?_
    refine o_on rfl rfl ?_
    refine o_move (v := (.slice a l.length cap)) rfl ?_
    refine o_on rfl rfl ?_
    refine o_move (v := (.int .i64 ((k : Nat) : Int))) rfl ?_
    refine o_on rfl rfl ?_
    obtain ⟨x1, hx1⟩ := getq (l := l) (k := k) (by omega)
    obtain ⟨ad1, cs1, ha1, hl1, hr1, hR1⟩ := hel k _ hx1
    cases hR1
    refine o_iaddr_slice (k := k) (a' := (ad1.add (k * 1))) (congrArg (fun z => Value.slice z _ _) ha1) rfl (by omega) (lt_of_getq hx1) Try.underlying29 Try.sizeOf9 rfl ?_
    refine o_on rfl rfl ?_
    refine o_load (v := (.string x1)) rfl Try.isAgg9 (hr1.cell hS1.view 0 rfl rfl) ?_
    refine o_on rfl rfl ?_
    refine o_move (v := (.string s)) rfl ?_
    refine o_on rfl rfl ?_
    refine o_lsss (r := (decide (Lk.blt x1 s))) rfl rfl rfl ?_
    refine o_pick_t (v := (.bool (decide (Lk.blt x1 s)))) rfl rfl ?_
    refine wpList_nil ?_
    refine then_n ?_
    refine if_d (Lk.blt x1 s) rfl (fun ht1 => ?_) (fun ht1 => ?_)
    · refine wp_skip ?_
      refine then_n ?_
      refine wp_block ?_
      refine one_reg ?_
      refine o_move (v := (.int .i64 ((k : Nat) : Int))) rfl ?_
      refine o_add (r := ((k + 1 : Nat) : Int)) rfl rfl (nw (by omega) (by omega) (by omega)) ?_
      refine o_assign (v := (.int .i64 ((k + 1 : Nat) : Int))) rfl ?_
      refine wpList_nil ?_
      refine blk_n ?_
      refine then_n ?_
      exact ⟨_, _, rfl, ⟨k + 1, _, rfl, (upd_in rfl (upd_in rfl (upd_in rfl rfl))), hS1, by have := lt_of_getq hx1; omega, by rw [take_snoc hx1]; intro y hy; rcases List.mem_append.1 hy with hy | hy; exact hbl y hy; simp at hy; subst hy; exact ht1⟩, by have := lt_of_getq hx1; omega⟩
    · refine wp_exit ?_
      refine then_e ?_
      refine then_e ?_
      refine blk_hit ?_
      refine then_n ?_
      refine wp_seq ?_
      refine d_reg (fun z => St ⟨w, σ, []⟩ z σ []) (by kernel_rfl) rfl rfl ?_
      have hS2 := hS1.drew
      refine d_take (i := 1) (v := (.slice a l.length cap)) (l' := #[false, true, false, false, false, false, false, false, false, false, false, false, false]) rfl (by kernel_rfl) (by kernel_rfl) (by kernel_rfl) rfl rfl (fun _ _ _ h => h) hS2 (fun w hJ K hK => ?_) ?_
      · refine o_move (v := (.slice a l.length cap)) rfl ?_
        exact ⟨rfl, hK⟩
      refine d_take (i := 2) (v := (.int .i64 ((k : Nat) : Int))) (l' := #[false, true, true, false, false, false, false, false, false, false, false, false, false]) rfl (by kernel_rfl) (by kernel_rfl) (by kernel_rfl) rfl rfl (fun _ _ _ h => h) hS2 (fun w hJ K hK => ?_) ?_
      · refine o_move (v := (.int .i64 ((k : Nat) : Int))) rfl ?_
        exact ⟨rfl, hK⟩
      have hln1 : (l.take k).length = k := by simp only [List.length_take]; omega
      refine d_take (i := 3) (v := (.slice a k cap)) (l' := #[false, true, true, true, false, false, false, false, false, false, false, false, false]) rfl (by kernel_rfl) (by kernel_rfl) (by kernel_rfl) rfl rfl (fun _ _ _ h => h) hS2 (fun w hJ K hK => ?_) ?_
      · refine o_prefix (r := k) rfl Try.underlying29 Try.sizeOf9 rfl (by omega) ?_
        exact ⟨rfl, hK⟩
      refine d_take (i := 5) (v := (.string s)) (l' := #[false, true, true, true, false, true, false, false, false, false, false, false, false]) rfl (by kernel_rfl) (by kernel_rfl) (by kernel_rfl) rfl rfl (fun _ _ _ h => h) hS2 (fun w hJ K hK => ?_) ?_
      · refine o_move (v := (.string s)) rfl ?_
        exact ⟨rfl, hK⟩
      refine d_take (i := 8) (v := (.slice a l.length cap)) (l' := #[false, true, true, true, false, true, false, false, true, false, false, false, false]) rfl (by kernel_rfl) (by kernel_rfl) (by kernel_rfl) rfl rfl (fun _ _ _ h => h) hS2 (fun w hJ K hK => ?_) ?_
      · refine o_move (v := (.slice a l.length cap)) rfl ?_
        exact ⟨rfl, hK⟩
      refine d_take (i := 9) (v := (.int .i64 ((k : Nat) : Int))) (l' := #[false, true, true, true, false, true, false, false, true, true, false, false, false]) rfl (by kernel_rfl) (by kernel_rfl) (by kernel_rfl) rfl rfl (fun _ _ _ h => h) hS2 (fun w hJ K hK => ?_) ?_
      · refine o_move (v := (.int .i64 ((k : Nat) : Int))) rfl ?_
        exact ⟨rfl, hK⟩
      have hln2 : (l.drop k).length = l.length - k := List.length_drop
      refine d_take (i := 10) (v := (.slice (if cap = k then a else a.map (·.add (k * 1))) (l.length - k) (cap - k))) (l' := #[false, true, true, true, false, true, false, false, true, true, true, false, false]) rfl (by kernel_rfl) (by kernel_rfl) (by kernel_rfl) rfl rfl (fun _ _ _ h => h) hS2 (fun w hJ K hK => ?_) ?_
      · refine o_slice (l := k) (r := l.length) (v := (.slice (if cap = k then a else a.map (·.add (k * 1))) (l.length - k) (cap - k))) rfl Try.underlying29 Try.sizeOf9 (.inr ⟨_, rfl, rfl⟩) (.inl ⟨rfl, rfl⟩) (by omega) (by omega) rfl ?_
        exact ⟨rfl, hK⟩
      refine d_two (i := 0) (j := 6) (by kernel_rfl) rfl rfl (li := #[true, true, true, true, false, true, false, false, true, true, true, false, false]) (lj := #[false, true, true, true, false, true, true, false, true, true, true, false, false]) rfl rfl ?_ ?_
      · refine o_bslice (cs := []) (e := 9) hS2 (fun _ => by kernel_rfl) ?_
        intro b1 w2 hS3
        refine wpList_nil ?_
        refine ⟨rfl, (hS3.sublist (by first | exact List.nil_sublist _ | simp)), ?_⟩
        refine d_two (i := 4) (j := 6) (by kernel_rfl) rfl rfl (li := #[true, true, true, true, true, true, false, false, true, true, true, false, false]) (lj := #[true, true, true, true, false, true, true, false, true, true, true, false, false]) rfl rfl ?_ ?_
        · have hS4 := hS3.asVec (i := 0) (ms' := [vec (.slice (some ⟨b1, 0, none⟩) 0 0) 9 1 0 []]) (size := 1) rfl rfl (by unfold maxLen; omega) rfl
          refine o_append_rd (enc := encTx) (l := (l.take k)) (Ms := fun v1 => [vec v1 9 1 (((l.take k)).length) (((l.take k)).flatMap encTx)]) (xs' := ((l.take k)).flatMap encTx) Try.underlying29 Try.type9 rfl rfl (bytes := 16) rfl rfl (Nat.succ_pos _) hS4 rfl (q := 0) rfl rfl (RSl.take hv k (by omega)) hS4.view encTx_len encTx_one (by omega) (by unfold maxLen; omega) (List.nil_append _) (fun _ => by rw [Nat.zero_add]; rfl) ?_
          intro v1 w3 ho1 hS5
          refine wpList_nil ?_
          refine ⟨rfl, (hS5.sublist (by first | exact List.nil_sublist _ | simp)), ?_⟩
          refine d_one (i := 6) (by kernel_rfl) rfl (l' := #[true, true, true, true, true, true, true, false, true, true, true, false, false]) rfl ?_
          refine o_bslice (cs := [(.string s)]) (e := 9) hS5 (fun _ => by kernel_rfl) ?_
          intro b2 w4 hS6
          refine wpList_nil ?_
          refine ⟨rfl, (hS6.sublist (by first | exact List.nil_sublist _ | simp)), ?_⟩
          refine d_one (i := 7) (by kernel_rfl) rfl (l' := #[true, true, true, true, true, true, true, true, true, true, true, false, false]) rfl ?_
          refine o_append (Ms := fun v2 => [blk b2 9 [(.string s)], vec v2 9 1 (((l.take k)).length + 1) (((l.take k) ++ [s]).flatMap encTx)]) (xs' := ((l.take k) ++ [s]).flatMap encTx) Try.underlying29 Try.type9 rfl rfl (bytes := 16) rfl rfl (Nat.succ_pos _) hS6 rfl (q := 1) rfl rfl rfl (blk_row (hS6.get (i := 0) rfl)) (ones rfl) (by omega) (by unfold maxLen; omega) (flat_snoc _ s) (fun _ => rfl) ?_
          intro v2 w5 ho2 hS7
          have hS8 := hS7.drop 0 (ms' := [vec v2 9 1 (((l.take k)).length + 1) (((l.take k) ++ [s]).flatMap encTx)]) rfl
          refine wpList_nil ?_
          refine ⟨rfl, (hS8.sublist (by first | exact List.nil_sublist _ | simp)), ?_⟩
          refine d_one (i := 11) (by kernel_rfl) rfl (l' := #[true, true, true, true, true, true, true, true, true, true, true, true, false]) rfl ?_
          refine o_append_rd (enc := encTx) (l := (l.drop k)) (Ms := fun v3 => [vec v3 9 1 (((l.take k)).length + 1 + (((l.drop k)).length)) (((l.take k) ++ [s] ++ (l.drop k)).flatMap encTx)]) (xs' := ((l.take k) ++ [s] ++ (l.drop k)).flatMap encTx) Try.underlying29 Try.type9 rfl rfl (bytes := 16) rfl rfl (Nat.succ_pos _) hS8 rfl (q := 0) rfl rfl (RSl.drop hv k (by omega)) hS8.view encTx_len encTx_one (by omega) (by unfold maxLen; omega) (List.flatMap_append).symm (fun _ => rfl) ?_
          intro v3 w6 ho3 hS9
          refine wpList_nil ?_
          refine ⟨rfl, (hS9.sublist (by first | exact List.nil_sublist _ | simp)), wpJ_weak (J' := fun z => St ⟨w, σ, []⟩ z σ [vec v3 9 1 (((l.take k)).length + 1 + (((l.drop k)).length)) (((l.take k) ++ [s] ++ (l.drop k)).flatMap encTx)]) (fun w h => h.sublist (by first | exact List.nil_sublist _ | simp)) _ _ _ _ ?_⟩
          refine d_take (i := 12) (v := v3) (l' := #[true, true, true, true, true, true, true, true, true, true, true, true, true]) rfl (by kernel_rfl) (by kernel_rfl) (by kernel_rfl) rfl rfl (fun _ _ _ h => h) hS9 (fun w hJ K hK => ?_) ?_
          · refine o_assign (v := v3) rfl ?_
            exact ⟨rfl, hK⟩
          refine d_done (by kernel_rfl) ?_
          refine then_n ?_
          refine wp_ret ?_
          refine ret1 rfl (show ev _ _ _ = v3 from rfl) ?_
          have hI := Lk.insert_ok hasc hns hbl (fun x hx => by rw [hx1] at hx; cases hx; exact ht1)
          obtain ⟨σ1, hS10, hsub1, hfr1⟩ := hS9.freeze (i := 0) rfl rfl rfl
          exact ⟨v3, _, σ1, rfl, hS10.done, RSl.ofVecEnc encTx_len (hS9.get (i := 0) rfl) hfr1 (by simp only [List.length_append, List.length_singleton]) (by omega), hI.1, hI.2, by simp only [List.length_append, List.length_singleton]; omega⟩
        · refine o_bslice (cs := [(.string s)]) (e := 9) hS3 (fun _ => by kernel_rfl) ?_
          intro b3 w7 hS11
          refine wpList_nil ?_
          refine ⟨rfl, (hS11.sublist (by first | exact List.nil_sublist _ | simp)), ?_⟩
          refine d_one (i := 4) (by kernel_rfl) rfl (l' := #[true, true, true, true, true, true, true, false, true, true, true, false, false]) rfl ?_
          have hS12 := hS11.asVec (i := 1) (ms' := [blk b3 9 [(.string s)], vec (.slice (some ⟨b1, 0, none⟩) 0 0) 9 1 0 []]) (size := 1) rfl rfl (by unfold maxLen; omega) rfl
          refine o_append_rd (enc := encTx) (l := (l.take k)) (Ms := fun v4 => [blk b3 9 [(.string s)], vec v4 9 1 (((l.take k)).length) (((l.take k)).flatMap encTx)]) (xs' := ((l.take k)).flatMap encTx) Try.underlying29 Try.type9 rfl rfl (bytes := 16) rfl rfl (Nat.succ_pos _) hS12 rfl (q := 1) rfl rfl (RSl.take hv k (by omega)) hS12.view encTx_len encTx_one (by omega) (by unfold maxLen; omega) (List.nil_append _) (fun _ => by rw [Nat.zero_add]; rfl) ?_
          intro v4 w8 ho4 hS13
          refine wpList_nil ?_
          refine ⟨rfl, (hS13.sublist (by first | exact List.nil_sublist _ | simp)), ?_⟩
          refine d_one (i := 7) (by kernel_rfl) rfl (l' := #[true, true, true, true, true, true, true, true, true, true, true, false, false]) rfl ?_
          refine o_append (Ms := fun v5 => [blk b3 9 [(.string s)], vec v5 9 1 (((l.take k)).length + 1) (((l.take k) ++ [s]).flatMap encTx)]) (xs' := ((l.take k) ++ [s]).flatMap encTx) Try.underlying29 Try.type9 rfl rfl (bytes := 16) rfl rfl (Nat.succ_pos _) hS13 rfl (q := 1) rfl rfl rfl (blk_row (hS13.get (i := 0) rfl)) (ones rfl) (by omega) (by unfold maxLen; omega) (flat_snoc _ s) (fun _ => rfl) ?_
          intro v5 w9 ho5 hS14
          have hS15 := hS14.drop 0 (ms' := [vec v5 9 1 (((l.take k)).length + 1) (((l.take k) ++ [s]).flatMap encTx)]) rfl
          refine wpList_nil ?_
          refine ⟨rfl, (hS15.sublist (by first | exact List.nil_sublist _ | simp)), ?_⟩
          refine d_one (i := 11) (by kernel_rfl) rfl (l' := #[true, true, true, true, true, true, true, true, true, true, true, true, false]) rfl ?_
          refine o_append_rd (enc := encTx) (l := (l.drop k)) (Ms := fun v6 => [vec v6 9 1 (((l.take k)).length + 1 + (((l.drop k)).length)) (((l.take k) ++ [s] ++ (l.drop k)).flatMap encTx)]) (xs' := ((l.take k) ++ [s] ++ (l.drop k)).flatMap encTx) Try.underlying29 Try.type9 rfl rfl (bytes := 16) rfl rfl (Nat.succ_pos _) hS15 rfl (q := 0) rfl rfl (RSl.drop hv k (by omega)) hS15.view encTx_len encTx_one (by omega) (by unfold maxLen; omega) (List.flatMap_append).symm (fun _ => rfl) ?_
          intro v6 w10 ho6 hS16
          refine wpList_nil ?_
          refine ⟨rfl, (hS16.sublist (by first | exact List.nil_sublist _ | simp)), wpJ_weak (J' := fun z => St ⟨w, σ, []⟩ z σ [vec v6 9 1 (((l.take k)).length + 1 + (((l.drop k)).length)) (((l.take k) ++ [s] ++ (l.drop k)).flatMap encTx)]) (fun w h => h.sublist (by first | exact List.nil_sublist _ | simp)) _ _ _ _ ?_⟩
          refine d_take (i := 12) (v := v6) (l' := #[true, true, true, true, true, true, true, true, true, true, true, true, true]) rfl (by kernel_rfl) (by kernel_rfl) (by kernel_rfl) rfl rfl (fun _ _ _ h => h) hS16 (fun w hJ K hK => ?_) ?_
          · refine o_assign (v := v6) rfl ?_
            exact ⟨rfl, hK⟩
          refine d_done (by kernel_rfl) ?_
          refine then_n ?_
          refine wp_ret ?_
          refine ret1 rfl (show ev _ _ _ = v6 from rfl) ?_
          have hI := Lk.insert_ok hasc hns hbl (fun x hx => by rw [hx1] at hx; cases hx; exact ht1)
          obtain ⟨σ2, hS17, hsub2, hfr2⟩ := hS16.freeze (i := 0) rfl rfl rfl
          exact ⟨v6, _, σ2, rfl, hS17.done, RSl.ofVecEnc encTx_len (hS16.get (i := 0) rfl) hfr2 (by simp only [List.length_append, List.length_singleton]) (by omega), hI.1, hI.2, by simp only [List.length_append, List.length_singleton]; omega⟩
      · refine o_bslice (cs := [(.string s)]) (e := 9) hS2 (fun _ => by kernel_rfl) ?_
        intro b4 w11 hS18
        refine wpList_nil ?_
        refine ⟨rfl, (hS18.sublist (by first | exact List.nil_sublist _ | simp)), ?_⟩
        refine d_one (i := 0) (by kernel_rfl) rfl (l' := #[true, true, true, true, false, true, true, false, true, true, true, false, false]) rfl ?_
        refine o_bslice (cs := []) (e := 9) hS18 (fun _ => by kernel_rfl) ?_
        intro b5 w12 hS19
        refine wpList_nil ?_
        refine ⟨rfl, (hS19.sublist (by first | exact List.nil_sublist _ | simp)), ?_⟩
        refine d_one (i := 4) (by kernel_rfl) rfl (l' := #[true, true, true, true, true, true, true, false, true, true, true, false, false]) rfl ?_
        have hS20 := hS19.asVec (i := 0) (ms' := [vec (.slice (some ⟨b5, 0, none⟩) 0 0) 9 1 0 [], blk b4 9 [(.string s)]]) (size := 1) rfl rfl (by unfold maxLen; omega) rfl
        refine o_append_rd (enc := encTx) (l := (l.take k)) (Ms := fun v7 => [vec v7 9 1 (((l.take k)).length) (((l.take k)).flatMap encTx), blk b4 9 [(.string s)]]) (xs' := ((l.take k)).flatMap encTx) Try.underlying29 Try.type9 rfl rfl (bytes := 16) rfl rfl (Nat.succ_pos _) hS20 rfl (q := 0) rfl rfl (RSl.take hv k (by omega)) hS20.view encTx_len encTx_one (by omega) (by unfold maxLen; omega) (List.nil_append _) (fun _ => by rw [Nat.zero_add]; rfl) ?_
        intro v7 w13 ho7 hS21
        refine wpList_nil ?_
        refine ⟨rfl, (hS21.sublist (by first | exact List.nil_sublist _ | simp)), ?_⟩
        refine d_one (i := 7) (by kernel_rfl) rfl (l' := #[true, true, true, true, true, true, true, true, true, true, true, false, false]) rfl ?_
        refine o_append (Ms := fun v8 => [vec v8 9 1 (((l.take k)).length + 1) (((l.take k) ++ [s]).flatMap encTx), blk b4 9 [(.string s)]]) (xs' := ((l.take k) ++ [s]).flatMap encTx) Try.underlying29 Try.type9 rfl rfl (bytes := 16) rfl rfl (Nat.succ_pos _) hS21 rfl (q := 0) rfl rfl rfl (blk_row (hS21.get (i := 1) rfl)) (ones rfl) (by omega) (by unfold maxLen; omega) (flat_snoc _ s) (fun _ => rfl) ?_
        intro v8 w14 ho8 hS22
        have hS23 := hS22.drop 1 (ms' := [vec v8 9 1 (((l.take k)).length + 1) (((l.take k) ++ [s]).flatMap encTx)]) rfl
        refine wpList_nil ?_
        refine ⟨rfl, (hS23.sublist (by first | exact List.nil_sublist _ | simp)), ?_⟩
        refine d_one (i := 11) (by kernel_rfl) rfl (l' := #[true, true, true, true, true, true, true, true, true, true, true, true, false]) rfl ?_
        refine o_append_rd (enc := encTx) (l := (l.drop k)) (Ms := fun v9 => [vec v9 9 1 (((l.take k)).length + 1 + (((l.drop k)).length)) (((l.take k) ++ [s] ++ (l.drop k)).flatMap encTx)]) (xs' := ((l.take k) ++ [s] ++ (l.drop k)).flatMap encTx) Try.underlying29 Try.type9 rfl rfl (bytes := 16) rfl rfl (Nat.succ_pos _) hS23 rfl (q := 0) rfl rfl (RSl.drop hv k (by omega)) hS23.view encTx_len encTx_one (by omega) (by unfold maxLen; omega) (List.flatMap_append).symm (fun _ => rfl) ?_
        intro v9 w15 ho9 hS24
        refine wpList_nil ?_
        refine ⟨rfl, (hS24.sublist (by first | exact List.nil_sublist _ | simp)), wpJ_weak (J' := fun z => St ⟨w, σ, []⟩ z σ [vec v9 9 1 (((l.take k)).length + 1 + (((l.drop k)).length)) (((l.take k) ++ [s] ++ (l.drop k)).flatMap encTx)]) (fun w h => h.sublist (by first | exact List.nil_sublist _ | simp)) _ _ _ _ ?_⟩
        refine d_take (i := 12) (v := v9) (l' := #[true, true, true, true, true, true, true, true, true, true, true, true, true]) rfl (by kernel_rfl) (by kernel_rfl) (by kernel_rfl) rfl rfl (fun _ _ _ h => h) hS24 (fun w hJ K hK => ?_) ?_
        · refine o_assign (v := v9) rfl ?_
          exact ⟨rfl, hK⟩
        refine d_done (by kernel_rfl) ?_
        refine then_n ?_
        refine wp_ret ?_
        refine ret1 rfl (show ev _ _ _ = v9 from rfl) ?_
        have hI := Lk.insert_ok hasc hns hbl (fun x hx => by rw [hx1] at hx; cases hx; exact ht1)
        obtain ⟨σ3, hS25, hsub3, hfr3⟩ := hS24.freeze (i := 0) rfl rfl rfl
        exact ⟨v9, _, σ3, rfl, hS25.done, RSl.ofVecEnc encTx_len (hS24.get (i := 0) rfl) hfr3 (by simp only [List.length_append, List.length_singleton]) (by omega), hI.1, hI.2, by simp only [List.length_append, List.length_singleton]; omega⟩
  · refine o_move (v := (.bool false)) (congrArg Value.bool (decide_eq_false hb1)) ?_
    refine o_off rfl rfl ?_
    refine o_off rfl rfl ?_
    refine o_off rfl rfl ?_
    refine o_off rfl rfl ?_
    refine o_off rfl rfl ?_
    refine o_off rfl rfl ?_
    refine o_pick_f (v := (.bool false)) rfl rfl ?_
    refine wpList_nil ?_
    refine then_n ?_
    refine if_f rfl ?_
    refine wp_exit ?_
    refine then_e ?_
    refine then_e ?_
    refine blk_hit ?_
    refine then_n ?_
    refine wp_seq ?_
    refine d_reg (fun z => St ⟨w, σ, []⟩ z σ []) (by kernel_rfl) rfl rfl ?_
    have hS26 := hS1.drew
    refine d_take (i := 1) (v := (.slice a l.length cap)) (l' := #[false, true, false, false, false, false, false, false, false, false, false, false, false]) rfl (by kernel_rfl) (by kernel_rfl) (by kernel_rfl) rfl rfl (fun _ _ _ h => h) hS26 (fun w hJ K hK => ?_) ?_
    · refine o_move (v := (.slice a l.length cap)) rfl ?_
      exact ⟨rfl, hK⟩
    refine d_take (i := 2) (v := (.int .i64 ((k : Nat) : Int))) (l' := #[false, true, true, false, false, false, false, false, false, false, false, false, false]) rfl (by kernel_rfl) (by kernel_rfl) (by kernel_rfl) rfl rfl (fun _ _ _ h => h) hS26 (fun w hJ K hK => ?_) ?_
    · refine o_move (v := (.int .i64 ((k : Nat) : Int))) rfl ?_
      exact ⟨rfl, hK⟩
    have hln3 : (l.take k).length = k := by simp only [List.length_take]; omega
    refine d_take (i := 3) (v := (.slice a k cap)) (l' := #[false, true, true, true, false, false, false, false, false, false, false, false, false]) rfl (by kernel_rfl) (by kernel_rfl) (by kernel_rfl) rfl rfl (fun _ _ _ h => h) hS26 (fun w hJ K hK => ?_) ?_
    · refine o_prefix (r := k) rfl Try.underlying29 Try.sizeOf9 rfl (by omega) ?_
      exact ⟨rfl, hK⟩
    refine d_take (i := 5) (v := (.string s)) (l' := #[false, true, true, true, false, true, false, false, false, false, false, false, false]) rfl (by kernel_rfl) (by kernel_rfl) (by kernel_rfl) rfl rfl (fun _ _ _ h => h) hS26 (fun w hJ K hK => ?_) ?_
    · refine o_move (v := (.string s)) rfl ?_
      exact ⟨rfl, hK⟩
    refine d_take (i := 8) (v := (.slice a l.length cap)) (l' := #[false, true, true, true, false, true, false, false, true, false, false, false, false]) rfl (by kernel_rfl) (by kernel_rfl) (by kernel_rfl) rfl rfl (fun _ _ _ h => h) hS26 (fun w hJ K hK => ?_) ?_
    · refine o_move (v := (.slice a l.length cap)) rfl ?_
      exact ⟨rfl, hK⟩
    refine d_take (i := 9) (v := (.int .i64 ((k : Nat) : Int))) (l' := #[false, true, true, true, false, true, false, false, true, true, false, false, false]) rfl (by kernel_rfl) (by kernel_rfl) (by kernel_rfl) rfl rfl (fun _ _ _ h => h) hS26 (fun w hJ K hK => ?_) ?_
    · refine o_move (v := (.int .i64 ((k : Nat) : Int))) rfl ?_
      exact ⟨rfl, hK⟩
    have hln4 : (l.drop k).length = l.length - k := List.length_drop
    refine d_take (i := 10) (v := (.slice (if cap = k then a else a.map (·.add (k * 1))) (l.length - k) (cap - k))) (l' := #[false, true, true, true, false, true, false, false, true, true, true, false, false]) rfl (by kernel_rfl) (by kernel_rfl) (by kernel_rfl) rfl rfl (fun _ _ _ h => h) hS26 (fun w hJ K hK => ?_) ?_
    · refine o_slice (l := k) (r := l.length) (v := (.slice (if cap = k then a else a.map (·.add (k * 1))) (l.length - k) (cap - k))) rfl Try.underlying29 Try.sizeOf9 (.inr ⟨_, rfl, rfl⟩) (.inl ⟨rfl, rfl⟩) (by omega) (by omega) rfl ?_
      exact ⟨rfl, hK⟩
    refine d_two (i := 0) (j := 6) (by kernel_rfl) rfl rfl (li := #[true, true, true, true, false, true, false, false, true, true, true, false, false]) (lj := #[false, true, true, true, false, true, true, false, true, true, true, false, false]) rfl rfl ?_ ?_
    · refine o_bslice (cs := []) (e := 9) hS26 (fun _ => by kernel_rfl) ?_
      intro b6 w16 hS27
      refine wpList_nil ?_
      refine ⟨rfl, (hS27.sublist (by first | exact List.nil_sublist _ | simp)), ?_⟩
      refine d_two (i := 4) (j := 6) (by kernel_rfl) rfl rfl (li := #[true, true, true, true, true, true, false, false, true, true, true, false, false]) (lj := #[true, true, true, true, false, true, true, false, true, true, true, false, false]) rfl rfl ?_ ?_
      · have hS28 := hS27.asVec (i := 0) (ms' := [vec (.slice (some ⟨b6, 0, none⟩) 0 0) 9 1 0 []]) (size := 1) rfl rfl (by unfold maxLen; omega) rfl
        refine o_append_rd (enc := encTx) (l := (l.take k)) (Ms := fun v10 => [vec v10 9 1 (((l.take k)).length) (((l.take k)).flatMap encTx)]) (xs' := ((l.take k)).flatMap encTx) Try.underlying29 Try.type9 rfl rfl (bytes := 16) rfl rfl (Nat.succ_pos _) hS28 rfl (q := 0) rfl rfl (RSl.take hv k (by omega)) hS28.view encTx_len encTx_one (by omega) (by unfold maxLen; omega) (List.nil_append _) (fun _ => by rw [Nat.zero_add]; rfl) ?_
        intro v10 w17 ho10 hS29
        refine wpList_nil ?_
        refine ⟨rfl, (hS29.sublist (by first | exact List.nil_sublist _ | simp)), ?_⟩
        refine d_one (i := 6) (by kernel_rfl) rfl (l' := #[true, true, true, true, true, true, true, false, true, true, true, false, false]) rfl ?_
        refine o_bslice (cs := [(.string s)]) (e := 9) hS29 (fun _ => by kernel_rfl) ?_
        intro b7 w18 hS30
        refine wpList_nil ?_
        refine ⟨rfl, (hS30.sublist (by first | exact List.nil_sublist _ | simp)), ?_⟩
        refine d_one (i := 7) (by kernel_rfl) rfl (l' := #[true, true, true, true, true, true, true, true, true, true, true, false, false]) rfl ?_
        refine o_append (Ms := fun v11 => [blk b7 9 [(.string s)], vec v11 9 1 (((l.take k)).length + 1) (((l.take k) ++ [s]).flatMap encTx)]) (xs' := ((l.take k) ++ [s]).flatMap encTx) Try.underlying29 Try.type9 rfl rfl (bytes := 16) rfl rfl (Nat.succ_pos _) hS30 rfl (q := 1) rfl rfl rfl (blk_row (hS30.get (i := 0) rfl)) (ones rfl) (by omega) (by unfold maxLen; omega) (flat_snoc _ s) (fun _ => rfl) ?_
        intro v11 w19 ho11 hS31
        have hS32 := hS31.drop 0 (ms' := [vec v11 9 1 (((l.take k)).length + 1) (((l.take k) ++ [s]).flatMap encTx)]) rfl
        refine wpList_nil ?_
        refine ⟨rfl, (hS32.sublist (by first | exact List.nil_sublist _ | simp)), ?_⟩
        refine d_one (i := 11) (by kernel_rfl) rfl (l' := #[true, true, true, true, true, true, true, true, true, true, true, true, false]) rfl ?_
        refine o_append_rd (enc := encTx) (l := (l.drop k)) (Ms := fun v12 => [vec v12 9 1 (((l.take k)).length + 1 + (((l.drop k)).length)) (((l.take k) ++ [s] ++ (l.drop k)).flatMap encTx)]) (xs' := ((l.take k) ++ [s] ++ (l.drop k)).flatMap encTx) Try.underlying29 Try.type9 rfl rfl (bytes := 16) rfl rfl (Nat.succ_pos _) hS32 rfl (q := 0) rfl rfl (RSl.drop hv k (by omega)) hS32.view encTx_len encTx_one (by omega) (by unfold maxLen; omega) (List.flatMap_append).symm (fun _ => rfl) ?_
        intro v12 w20 ho12 hS33
        refine wpList_nil ?_
        refine ⟨rfl, (hS33.sublist (by first | exact List.nil_sublist _ | simp)), wpJ_weak (J' := fun z => St ⟨w, σ, []⟩ z σ [vec v12 9 1 (((l.take k)).length + 1 + (((l.drop k)).length)) (((l.take k) ++ [s] ++ (l.drop k)).flatMap encTx)]) (fun w h => h.sublist (by first | exact List.nil_sublist _ | simp)) _ _ _ _ ?_⟩
        refine d_take (i := 12) (v := v12) (l' := #[true, true, true, true, true, true, true, true, true, true, true, true, true]) rfl (by kernel_rfl) (by kernel_rfl) (by kernel_rfl) rfl rfl (fun _ _ _ h => h) hS33 (fun w hJ K hK => ?_) ?_
        · refine o_assign (v := v12) rfl ?_
          exact ⟨rfl, hK⟩
        refine d_done (by kernel_rfl) ?_
        refine then_n ?_
        refine wp_ret ?_
        refine ret1 rfl (show ev _ _ _ = v12 from rfl) ?_
        have hI := Lk.insert_ok hasc hns hbl (fun x hx => by have := lt_of_getq hx; omega)
        obtain ⟨σ4, hS34, hsub4, hfr4⟩ := hS33.freeze (i := 0) rfl rfl rfl
        exact ⟨v12, _, σ4, rfl, hS34.done, RSl.ofVecEnc encTx_len (hS33.get (i := 0) rfl) hfr4 (by simp only [List.length_append, List.length_singleton]) (by omega), hI.1, hI.2, by simp only [List.length_append, List.length_singleton]; omega⟩
      · refine o_bslice (cs := [(.string s)]) (e := 9) hS27 (fun _ => by kernel_rfl) ?_
        intro b8 w21 hS35
        refine wpList_nil ?_
        refine ⟨rfl, (hS35.sublist (by first | exact List.nil_sublist _ | simp)), ?_⟩
        refine d_one (i := 4) (by kernel_rfl) rfl (l' := #[true, true, true, true, true, true, true, false, true, true, true, false, false]) rfl ?_
        have hS36 := hS35.asVec (i := 1) (ms' := [blk b8 9 [(.string s)], vec (.slice (some ⟨b6, 0, none⟩) 0 0) 9 1 0 []]) (size := 1) rfl rfl (by unfold maxLen; omega) rfl
        refine o_append_rd (enc := encTx) (l := (l.take k)) (Ms := fun v13 => [blk b8 9 [(.string s)], vec v13 9 1 (((l.take k)).length) (((l.take k)).flatMap encTx)]) (xs' := ((l.take k)).flatMap encTx) Try.underlying29 Try.type9 rfl rfl (bytes := 16) rfl rfl (Nat.succ_pos _) hS36 rfl (q := 1) rfl rfl (RSl.take hv k (by omega)) hS36.view encTx_len encTx_one (by omega) (by unfold maxLen; omega) (List.nil_append _) (fun _ => by rw [Nat.zero_add]; rfl) ?_
        intro v13 w22 ho13 hS37
        refine wpList_nil ?_
        refine ⟨rfl, (hS37.sublist (by first | exact List.nil_sublist _ | simp)), ?_⟩
        refine d_one (i := 7) (by kernel_rfl) rfl (l' := #[true, true, true, true, true, true, true, true, true, true, true, false, false]) rfl ?_
        refine o_append (Ms := fun v14 => [blk b8 9 [(.string s)], vec v14 9 1 (((l.take k)).length + 1) (((l.take k) ++ [s]).flatMap encTx)]) (xs' := ((l.take k) ++ [s]).flatMap encTx) Try.underlying29 Try.type9 rfl rfl (bytes := 16) rfl rfl (Nat.succ_pos _) hS37 rfl (q := 1) rfl rfl rfl (blk_row (hS37.get (i := 0) rfl)) (ones rfl) (by omega) (by unfold maxLen; omega) (flat_snoc _ s) (fun _ => rfl) ?_
        intro v14 w23 ho14 hS38
        have hS39 := hS38.drop 0 (ms' := [vec v14 9 1 (((l.take k)).length + 1) (((l.take k) ++ [s]).flatMap encTx)]) rfl
        refine wpList_nil ?_
        refine ⟨rfl, (hS39.sublist (by first | exact List.nil_sublist _ | simp)), ?_⟩
        refine d_one (i := 11) (by kernel_rfl) rfl (l' := #[true, true, true, true, true, true, true, true, true, true, true, true, false]) rfl ?_
        refine o_append_rd (enc := encTx) (l := (l.drop k)) (Ms := fun v15 => [vec v15 9 1 (((l.take k)).length + 1 + (((l.drop k)).length)) (((l.take k) ++ [s] ++ (l.drop k)).flatMap encTx)]) (xs' := ((l.take k) ++ [s] ++ (l.drop k)).flatMap encTx) Try.underlying29 Try.type9 rfl rfl (bytes := 16) rfl rfl (Nat.succ_pos _) hS39 rfl (q := 0) rfl rfl (RSl.drop hv k (by omega)) hS39.view encTx_len encTx_one (by omega) (by unfold maxLen; omega) (List.flatMap_append).symm (fun _ => rfl) ?_
        intro v15 w24 ho15 hS40
        refine wpList_nil ?_
        refine ⟨rfl, (hS40.sublist (by first | exact List.nil_sublist _ | simp)), wpJ_weak (J' := fun z => St ⟨w, σ, []⟩ z σ [vec v15 9 1 (((l.take k)).length + 1 + (((l.drop k)).length)) (((l.take k) ++ [s] ++ (l.drop k)).flatMap encTx)]) (fun w h => h.sublist (by first | exact List.nil_sublist _ | simp)) _ _ _ _ ?_⟩
        refine d_take (i := 12) (v := v15) (l' := #[true, true, true, true, true, true, true, true, true, true, true, true, true]) rfl (by kernel_rfl) (by kernel_rfl) (by kernel_rfl) rfl rfl (fun _ _ _ h => h) hS40 (fun w hJ K hK => ?_) ?_
        · refine o_assign (v := v15) rfl ?_
          exact ⟨rfl, hK⟩
        refine d_done (by kernel_rfl) ?_
        refine then_n ?_
        refine wp_ret ?_
        refine ret1 rfl (show ev _ _ _ = v15 from rfl) ?_
        have hI := Lk.insert_ok hasc hns hbl (fun x hx => by have := lt_of_getq hx; omega)
        obtain ⟨σ5, hS41, hsub5, hfr5⟩ := hS40.freeze (i := 0) rfl rfl rfl
        exact ⟨v15, _, σ5, rfl, hS41.done, RSl.ofVecEnc encTx_len (hS40.get (i := 0) rfl) hfr5 (by simp only [List.length_append, List.length_singleton]) (by omega), hI.1, hI.2, by simp only [List.length_append, List.length_singleton]; omega⟩
    · refine o_bslice (cs := [(.string s)]) (e := 9) hS26 (fun _ => by kernel_rfl) ?_
      intro b9 w25 hS42
      refine wpList_nil ?_
      refine ⟨rfl, (hS42.sublist (by first | exact List.nil_sublist _ | simp)), ?_⟩
      refine d_one (i := 0) (by kernel_rfl) rfl (l' := #[true, true, true, true, false, true, true, false, true, true, true, false, false]) rfl ?_
      refine o_bslice (cs := []) (e := 9) hS42 (fun _ => by kernel_rfl) ?_
      intro b10 w26 hS43
      refine wpList_nil ?_
      refine ⟨rfl, (hS43.sublist (by first | exact List.nil_sublist _ | simp)), ?_⟩
      refine d_one (i := 4) (by kernel_rfl) rfl (l' := #[true, true, true, true, true, true, true, false, true, true, true, false, false]) rfl ?_
      have hS44 := hS43.asVec (i := 0) (ms' := [vec (.slice (some ⟨b10, 0, none⟩) 0 0) 9 1 0 [], blk b9 9 [(.string s)]]) (size := 1) rfl rfl (by unfold maxLen; omega) rfl
      refine o_append_rd (enc := encTx) (l := (l.take k)) (Ms := fun v16 => [vec v16 9 1 (((l.take k)).length) (((l.take k)).flatMap encTx), blk b9 9 [(.string s)]]) (xs' := ((l.take k)).flatMap encTx) Try.underlying29 Try.type9 rfl rfl (bytes := 16) rfl rfl (Nat.succ_pos _) hS44 rfl (q := 0) rfl rfl (RSl.take hv k (by omega)) hS44.view encTx_len encTx_one (by omega) (by unfold maxLen; omega) (List.nil_append _) (fun _ => by rw [Nat.zero_add]; rfl) ?_
      intro v16 w27 ho16 hS45
      refine wpList_nil ?_
      refine ⟨rfl, (hS45.sublist (by first | exact List.nil_sublist _ | simp)), ?_⟩
      refine d_one (i := 7) (by kernel_rfl) rfl (l' := #[true, true, true, true, true, true, true, true, true, true, true, false, false]) rfl ?_
      refine o_append (Ms := fun v17 => [vec v17 9 1 (((l.take k)).length + 1) (((l.take k) ++ [s]).flatMap encTx), blk b9 9 [(.string s)]]) (xs' := ((l.take k) ++ [s]).flatMap encTx) Try.underlying29 Try.type9 rfl rfl (bytes := 16) rfl rfl (Nat.succ_pos _) hS45 rfl (q := 0) rfl rfl rfl (blk_row (hS45.get (i := 1) rfl)) (ones rfl) (by omega) (by unfold maxLen; omega) (flat_snoc _ s) (fun _ => rfl) ?_
      intro v17 w28 ho17 hS46
      have hS47 := hS46.drop 1 (ms' := [vec v17 9 1 (((l.take k)).length + 1) (((l.take k) ++ [s]).flatMap encTx)]) rfl
      refine wpList_nil ?_
      refine ⟨rfl, (hS47.sublist (by first | exact List.nil_sublist _ | simp)), ?_⟩
      refine d_one (i := 11) (by kernel_rfl) rfl (l' := #[true, true, true, true, true, true, true, true, true, true, true, true, false]) rfl ?_
      refine o_append_rd (enc := encTx) (l := (l.drop k)) (Ms := fun v18 => [vec v18 9 1 (((l.take k)).length + 1 + (((l.drop k)).length)) (((l.take k) ++ [s] ++ (l.drop k)).flatMap encTx)]) (xs' := ((l.take k) ++ [s] ++ (l.drop k)).flatMap encTx) Try.underlying29 Try.type9 rfl rfl (bytes := 16) rfl rfl (Nat.succ_pos _) hS47 rfl (q := 0) rfl rfl (RSl.drop hv k (by omega)) hS47.view encTx_len encTx_one (by omega) (by unfold maxLen; omega) (List.flatMap_append).symm (fun _ => rfl) ?_
      intro v18 w29 ho18 hS48
      refine wpList_nil ?_
      refine ⟨rfl, (hS48.sublist (by first | exact List.nil_sublist _ | simp)), wpJ_weak (J' := fun z => St ⟨w, σ, []⟩ z σ [vec v18 9 1 (((l.take k)).length + 1 + (((l.drop k)).length)) (((l.take k) ++ [s] ++ (l.drop k)).flatMap encTx)]) (fun w h => h.sublist (by first | exact List.nil_sublist _ | simp)) _ _ _ _ ?_⟩
      refine d_take (i := 12) (v := v18) (l' := #[true, true, true, true, true, true, true, true, true, true, true, true, true]) rfl (by kernel_rfl) (by kernel_rfl) (by kernel_rfl) rfl rfl (fun _ _ _ h => h) hS48 (fun w hJ K hK => ?_) ?_
      · refine o_assign (v := v18) rfl ?_
        exact ⟨rfl, hK⟩
      refine d_done (by kernel_rfl) ?_
      refine then_n ?_
      refine wp_ret ?_
      refine ret1 rfl (show ev _ _ _ = v18 from rfl) ?_
      have hI := Lk.insert_ok hasc hns hbl (fun x hx => by have := lt_of_getq hx; omega)
      obtain ⟨σ6, hS49, hsub6, hfr6⟩ := hS48.freeze (i := 0) rfl rfl rfl
      exact ⟨v18, _, σ6, rfl, hS49.done, RSl.ofVecEnc encTx_len (hS48.get (i := 0) rfl) hfr6 (by simp only [List.length_append, List.length_singleton]) (by omega), hI.1, hI.2, by simp only [List.length_append, List.length_singleton]; omega⟩


end Go.Proofs.Ytehmnkholidanaa
