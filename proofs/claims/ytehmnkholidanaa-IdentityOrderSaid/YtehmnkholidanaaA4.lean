/- What a call answers, and that it leaves the memory that was there as it was: flagstone/identity.Until, flagstone/identity.Forest, flagstone/flagstoneref1.Has, flagstone/flagstoneref1.Same, flagstone/flagstoneref26.SameLinks, flagstone/flagstoneref26.Until. Conditions: those of each statement (that the arguments can be read). -/
import Derived.Test.YtehmnkholidanaaRows
import Derived.Test.YtehmnkholidanaaFlSort
import Derived.Test.YtehmnkholidanaaShelf
import Derived.KernelRfl
import Derived.Test.YtehmnkholidanaaA2
namespace Go.Proofs.Ytehmnkholidanaa
open Go Go.RowKit Go.Fl

theorem c_Until {σ : Hv} {w : World} (v : Value) (l : List Lk.L3) (t : Int) (hV : View σ w) (hv : RSl 3 (REnc encLk) σ v l) (hlen : l.length ≤ 1000) :
    Calls Try.prog 23 #[v, (.int .i64 t)] w fun e w1 => ∃ (v1 : Value) (σ1 : Hv), e = .returned v1 ∧ Grow [] σ w σ1 w1 ∧ RSl 3 (REnc encLk) σ1 v1 (Lk.upto t l) := by
  refine enter Try.func23 rfl rfl rfl ?_
  obtain ⟨a, cap, rfl, h1, h2, hel⟩ := hv
  have hS := St.start hV
  refine seq_reg ?_
  refine o_assign (v := (.slice none 0 0)) rfl ?_
  refine wpList_nil ?_
  refine then_n ?_
  refine seq_reg ?_
  refine o_assign (v := (.slice none 0 0)) rfl ?_
  refine wpList_nil ?_
  refine then_n ?_
  refine wp_seq ?_
  refine seq_reg ?_
  refine o_move (v := (.slice a l.length cap)) rfl ?_
  refine o_len_slice rfl Try.underlying24 ?_
  refine o_move (v := (.int .i64 (0 : Int))) rfl ?_
  refine wpList_nil ?_
  refine then_n ?_
  refine wp_block ?_
  have hSn := hS.addNil 28 3
  refine loop (fun m f z => ∃ (k : Nat) (v1 : Value) (g : Fr), m = l.length - k ∧ f = (upd (upd (upd (upd (upd g 1 (.int .i64 t)) 5 v1) 8 (.slice a l.length cap)) 9 (.int .i64 ((l.length : Nat) : Int))) 10 (.int .i64 ((k : Nat) : Int))) ∧ St ⟨w, σ, []⟩ z σ [vec v1 28 3 ((Lk.upto t (l.take k)).length) ((Lk.upto t (l.take k)).flatMap encLk)] ∧ (k ≤ l.length) ∧ (v1.oneCell' = true)) (m0 := _) ⟨0, _, _, rfl, (upd_in rfl (upd_in rfl (upd_in rfl (upd_in rfl (upd_in rfl rfl))))), hSn, Nat.zero_le _, rfl⟩ ?_
  rintro _ _ w1 ⟨k, v1, g, rfl, rfl, hS1, hk, hone⟩
  have hul := Lk.upto_len t (l.take k)
  rw [List.length_take] at hul
  refine seq_reg ?_
  refine o_lss (r := (decide (((k : Nat) : Int) < ((l.length : Nat) : Int)))) rfl rfl rfl ?_
  refine wpList_nil ?_
  refine then_n ?_
  refine wp_seq ?_
  refine if_d (((k : Nat) : Int) < ((l.length : Nat) : Int)) rfl (fun ht1 => ?_) (fun ht1 => ?_)
  · refine wp_skip ?_
    refine then_n ?_
    refine wp_seq ?_
    refine wp_block ?_
    refine seq_reg ?_
    obtain ⟨x1, hx1⟩ := getq (l := l) (k := k) (by omega)
    obtain ⟨ad1, cs1, ha1, hl1, hr1, hR1⟩ := hel k _ hx1
    cases hR1
    refine o_iaddr_slice (k := k) (a' := (ad1.add (k * 3))) (congrArg (fun z => Value.slice z _ _) ha1) rfl (by omega) (lt_of_getq hx1) Try.underlying24 Try.sizeOf28 rfl ?_
    refine o_loadA (cs := [(.string x1.1), (.string x1.2.1), (.int .i64 x1.2.2)]) rfl Try.isAgg28 Try.sizeOf28 rfl (hr1.row hS1.view) ?_
    refine o_alloc (cs := [(.string ⟨#[]⟩), (.string ⟨#[]⟩), (.int .i64 (0 : Int))]) hS1 Try.zeroValue28 rfl ?_
    intro b1 w2 hS2
    refine o_store (T := 28) (vs := [(.string x1.1), (.string x1.2.1), (.int .i64 x1.2.2)]) (cs' := [(.string x1.1), (.string x1.2.1), (.int .i64 x1.2.2)]) (ms' := [blk b1 28 [(.string x1.1), (.string x1.2.1), (.int .i64 x1.2.2)], vec v1 28 3 ((Lk.upto t (l.take k)).length) ((Lk.upto t (l.take k)).flatMap encLk)]) (i := 0) hS2 rfl rfl rfl Try.sizeOf28 rfl (ones rfl) rfl (Nat.le_of_ble_eq_true rfl) rfl rfl ?_
    intro w3 hS3
    refine wpList_nil ?_
    refine then_n ?_
    refine seq_reg ?_
    refine o_faddr (a' := ⟨b1, 2, none⟩) rfl Try.underlying28 rfl Try.sizeOf3 rfl ?_
    refine o_load (v := (.int .i64 x1.2.2)) rfl Try.isAgg3 (hS3.cell (i := 0) rfl rfl) ?_
    refine o_move (v := (.int .i64 t)) rfl ?_
    refine o_leq (r := (decide (x1.2.2 ≤ t))) rfl rfl rfl ?_
    refine wpList_nil ?_
    refine then_n ?_
    refine if_d (x1.2.2 ≤ t) rfl (fun ht2 => ?_) (fun ht2 => ?_)
    · refine one_reg ?_
      refine o_move (v := v1) rfl ?_
      refine o_loadA (cs := [(.string x1.1), (.string x1.2.1), (.int .i64 x1.2.2)]) rfl Try.isAgg28 Try.sizeOf28 rfl (blk_row (hS3.get (i := 0) rfl)) ?_
      refine o_bslice (cs := [(.string x1.1), (.string x1.2.1), (.int .i64 x1.2.2)]) (e := 28) hS3 (fun _ => by kernel_rfl) ?_
      intro b2 w4 hS4
      refine o_append (Ms := fun v1 => [blk b2 28 [(.string x1.1), (.string x1.2.1), (.int .i64 x1.2.2)], blk b1 28 [(.string x1.1), (.string x1.2.1), (.int .i64 x1.2.2)], vec v1 28 3 ((Lk.upto t (l.take k)).length + 1) ((Lk.upto t (l.take k) ++ [(x1.1, x1.2.1, x1.2.2)]).flatMap encLk)]) (xs' := (Lk.upto t (l.take k) ++ [(x1.1, x1.2.1, x1.2.2)]).flatMap encLk) Try.underlying24 Try.type28 rfl rfl (bytes := 40) rfl rfl (Nat.succ_pos _) hS4 rfl (q := 2) rfl rfl rfl (blk_row (hS4.get (i := 0) rfl)) (ones rfl) (by omega) (by unfold maxLen; omega) (flat_snoc _ (x1.1, x1.2.1, x1.2.2)) (fun _ => rfl) ?_
      intro v1 w5 ho1 hS5
      have hS6 := hS5.drop 0 (ms' := [blk b1 28 [(.string x1.1), (.string x1.2.1), (.int .i64 x1.2.2)], vec v1 28 3 ((Lk.upto t (l.take k)).length + 1) ((Lk.upto t (l.take k) ++ [(x1.1, x1.2.1, x1.2.2)]).flatMap encLk)]) rfl
      refine o_assign (v := v1) rfl ?_
      refine wpList_nil ?_
      refine blk_n ?_
      refine then_n ?_
      refine one_reg ?_
      refine o_add (r := ((k + 1 : Nat) : Int)) rfl rfl (nw (by omega) (by omega) (by omega)) ?_
      refine o_move (v := (.int .i64 ((k + 1 : Nat) : Int))) rfl ?_
      refine wpList_nil ?_
      refine then_n ?_
      exact ⟨_, _, rfl, ⟨k + 1, v1, _, rfl, (upd_in rfl (upd_in rfl (upd_in rfl (upd_in rfl (upd_in rfl rfl))))), (by rw [take_snoc hx1, Lk.upto_in ht2]; simpa using (hS6.sublist (ms' := [vec v1 28 3 ((Lk.upto t (l.take k)).length + 1) ((Lk.upto t (l.take k) ++ [(x1.1, x1.2.1, x1.2.2)]).flatMap encLk)]) (by simp))), by have := lt_of_getq hx1; omega, ho1⟩, by have := lt_of_getq hx1; omega⟩
    · refine wp_skip ?_
      refine blk_n ?_
      refine then_n ?_
      refine one_reg ?_
      refine o_add (r := ((k + 1 : Nat) : Int)) rfl rfl (nw (by omega) (by omega) (by omega)) ?_
      refine o_move (v := (.int .i64 ((k + 1 : Nat) : Int))) rfl ?_
      refine wpList_nil ?_
      refine then_n ?_
      exact ⟨_, _, rfl, ⟨k + 1, v1, _, rfl, (upd_in rfl (upd_in rfl (upd_in rfl (upd_in rfl (upd_in rfl rfl))))), (by rw [take_snoc hx1, Lk.upto_out ht2]; simpa using (hS3.sublist (ms' := [vec v1 28 3 ((Lk.upto t (l.take k)).length) ((Lk.upto t (l.take k)).flatMap encLk)]) (by simp))), by have := lt_of_getq hx1; omega, hone⟩, by have := lt_of_getq hx1; omega⟩
  · refine wp_exit ?_
    refine then_e ?_
    refine then_e ?_
    refine blk_hit ?_
    refine then_n ?_
    refine seq_reg ?_
    refine o_move (v := v1) rfl ?_
    refine o_assign (v := v1) rfl ?_
    refine wpList_nil ?_
    refine then_n ?_
    refine wp_ret ?_
    refine ret1 rfl (show ev _ _ _ = v1 from rfl) ?_
    have hkl : l.take k = l := List.take_of_length_le (by omega)
    rw [hkl] at hS1
    have hul2 := Lk.upto_len t l
    obtain ⟨σ1, hS7, hsub1, hfr1⟩ := hS1.freeze (i := 0) rfl rfl rfl
    exact ⟨v1, σ1, rfl, hS7.done, RSl.ofVecEnc encLk_len (hS1.get (i := 0) rfl) hfr1 rfl (by omega)⟩

theorem c_Forest {σ : Hv} {w : World} (v : Value) (l : List Lk.L3) (hlen : l.length ≤ 1000) (hV : View σ w) (hv : RSl 3 (REnc encLk) σ v l) :
    Calls Try.prog 21 #[v] w fun e w1 => ∃ (v1 : Value) (σ1 : Hv), e = .returned v1 ∧ Grow [] σ w σ1 w1 ∧ RSl 3 (REnc encLk) σ1 v1 (Lk.fo l l.length) := by
  refine enter Try.func21 rfl rfl rfl ?_
  obtain ⟨a, cap, rfl, h1, h2, hel⟩ := hv
  have hS := St.start hV
  refine seq_reg ?_
  refine o_assign (v := (.slice none 0 0)) rfl ?_
  refine wpList_nil ?_
  refine then_n ?_
  refine seq_reg ?_
  refine o_assign (v := (.slice none 0 0)) rfl ?_
  refine wpList_nil ?_
  refine then_n ?_
  refine seq_reg ?_
  refine o_emake (fun y : ByteArray => Value.string y) hS ?_
  intro b1 w1 hS1
  refine o_assign (v := (.map (some b1))) rfl ?_
  refine wpList_nil ?_
  refine then_n ?_
  refine wp_seq ?_
  refine seq_reg ?_
  refine o_move (v := (.slice a l.length cap)) rfl ?_
  refine o_len_slice rfl Try.underlying24 ?_
  refine o_move (v := (.int .i64 (0 : Int))) rfl ?_
  refine wpList_nil ?_
  refine then_n ?_
  refine wp_block ?_
  have hSn := hS1.addNil 28 3
  refine loop (fun m f z => ∃ (k : Nat) (v1 : Value) (F : ByteArray → Option ByteArray) (g : Fr), m = l.length - k ∧ f = (upd (upd (upd (upd (upd g 3 v1) 4 (.map (some b1))) 8 (.slice a l.length cap)) 9 (.int .i64 ((l.length : Nat) : Int))) 10 (.int .i64 ((k : Nat) : Int))) ∧ St ⟨w, σ, []⟩ z σ [vec v1 28 3 ((Lk.fo l k).length) ((Lk.fo l k).flatMap encLk), emap b1 (fun y : ByteArray => Value.string y) F] ∧ (k ≤ l.length) ∧ (v1.oneCell' = true) ∧ (Lk.Good (l.take k) F)) (m0 := _) ⟨0, _, _, _, rfl, (upd_in rfl (upd_in rfl (upd_in rfl (upd_in rfl (upd_in rfl rfl))))), hSn, Nat.zero_le _, rfl, Lk.good_nil⟩ ?_
  rintro _ _ w2 ⟨k, v1, F, g, rfl, rfl, hS2, hk, hone, hgd⟩
  have hul := Lk.fo_len l k
  refine seq_reg ?_
  refine o_lss (r := (decide (((k : Nat) : Int) < ((l.length : Nat) : Int)))) rfl rfl rfl ?_
  refine wpList_nil ?_
  refine then_n ?_
  refine wp_seq ?_
  refine if_d (((k : Nat) : Int) < ((l.length : Nat) : Int)) rfl (fun ht1 => ?_) (fun ht1 => ?_)
  · refine wp_skip ?_
    refine then_n ?_
    refine wp_seq ?_
    refine wp_block ?_
    refine seq_reg ?_
    obtain ⟨x1, hx1⟩ := getq (l := l) (k := k) (by omega)
    obtain ⟨ad1, cs1, ha1, hl1, hr1, hR1⟩ := hel k _ hx1
    cases hR1
    refine o_iaddr_slice (k := k) (a' := (ad1.add (k * 3))) (congrArg (fun z => Value.slice z _ _) ha1) rfl (by omega) (lt_of_getq hx1) Try.underlying24 Try.sizeOf28 rfl ?_
    refine o_loadA (cs := [(.string x1.1), (.string x1.2.1), (.int .i64 x1.2.2)]) rfl Try.isAgg28 Try.sizeOf28 rfl (hr1.row hS2.view) ?_
    refine o_alloc (cs := [(.string ⟨#[]⟩), (.string ⟨#[]⟩), (.int .i64 (0 : Int))]) hS2 Try.zeroValue28 rfl ?_
    intro b2 w3 hS3
    refine o_store (T := 28) (vs := [(.string x1.1), (.string x1.2.1), (.int .i64 x1.2.2)]) (cs' := [(.string x1.1), (.string x1.2.1), (.int .i64 x1.2.2)]) (ms' := [blk b2 28 [(.string x1.1), (.string x1.2.1), (.int .i64 x1.2.2)], vec v1 28 3 ((Lk.fo l k).length) ((Lk.fo l k).flatMap encLk), emap b1 (fun y : ByteArray => Value.string y) F]) (i := 0) hS3 rfl rfl rfl Try.sizeOf28 rfl (ones rfl) rfl (Nat.le_of_ble_eq_true rfl) rfl rfl ?_
    intro w4 hS4
    refine wpList_nil ?_
    refine then_n ?_
    refine seq_reg ?_
    refine o_move (v := (.map (some b1))) rfl ?_
    refine o_faddr (a' := ⟨b2, 0, none⟩) rfl Try.underlying28 rfl Try.sizeOf9 rfl ?_
    refine o_load (v := (.string x1.1)) rfl Try.isAgg9 (hS4.cell (i := 0) rfl rfl) ?_
    refine o_faddr (a' := ⟨b2, 1, none⟩) rfl Try.underlying28 rfl Try.sizeOf9 rfl ?_
    refine o_load (v := (.string x1.2.1)) rfl Try.isAgg9 (hS4.cell (i := 0) rfl rfl) ?_
    refine o_call (args := [(.map (some b1)), (.string x1.1), (.string x1.2.1)]) rfl Try.call37 (Calls.mono (c_join _ _ (l.take k) x1 hgd hS4.view (hS4.get (i := 2) rfl) (hS4.off _ (List.mem_of_getElem? (i := 2) rfl) _ rfl)) ?_)
    rintro _ w5 ⟨r1, F1, rfl, hr2, hgd1, hg1, ho1⟩
    refine ⟨_, rfl, ?_⟩
    have hS5 := hS4.growM hg1 (i := 2) (o' := emap b1 (fun y : ByteArray => Value.string y) F1) rfl rfl rfl ho1 (ms' := [blk b2 28 [(.string x1.1), (.string x1.2.1), (.int .i64 x1.2.2)], vec v1 28 3 ((Lk.fo l k).length) ((Lk.fo l k).flatMap encLk), emap b1 (fun y : ByteArray => Value.string y) F1]) rfl
    refine wpList_nil ?_
    refine then_n ?_
    refine if_b rfl (fun ht2 => ?_) (fun ht2 => ?_)
    · refine one_reg ?_
      refine o_move (v := v1) rfl ?_
      refine o_loadA (cs := [(.string x1.1), (.string x1.2.1), (.int .i64 x1.2.2)]) rfl Try.isAgg28 Try.sizeOf28 rfl (blk_row (hS5.get (i := 0) rfl)) ?_
      refine o_bslice (cs := [(.string x1.1), (.string x1.2.1), (.int .i64 x1.2.2)]) (e := 28) hS5 (fun _ => by kernel_rfl) ?_
      intro b3 w6 hS6
      refine o_append (Ms := fun v1 => [blk b3 28 [(.string x1.1), (.string x1.2.1), (.int .i64 x1.2.2)], blk b2 28 [(.string x1.1), (.string x1.2.1), (.int .i64 x1.2.2)], vec v1 28 3 ((Lk.fo l k).length + 1) ((Lk.fo l k ++ [(x1.1, x1.2.1, x1.2.2)]).flatMap encLk), emap b1 (fun y : ByteArray => Value.string y) F1]) (xs' := (Lk.fo l k ++ [(x1.1, x1.2.1, x1.2.2)]).flatMap encLk) Try.underlying24 Try.type28 rfl rfl (bytes := 40) rfl rfl (Nat.succ_pos _) hS6 rfl (q := 2) rfl rfl rfl (blk_row (hS6.get (i := 0) rfl)) (ones rfl) (by omega) (by unfold maxLen; omega) (flat_snoc _ (x1.1, x1.2.1, x1.2.2)) (fun _ => rfl) ?_
      intro v1 w7 ho2 hS7
      have hS8 := hS7.drop 0 (ms' := [blk b2 28 [(.string x1.1), (.string x1.2.1), (.int .i64 x1.2.2)], vec v1 28 3 ((Lk.fo l k).length + 1) ((Lk.fo l k ++ [(x1.1, x1.2.1, x1.2.2)]).flatMap encLk), emap b1 (fun y : ByteArray => Value.string y) F1]) rfl
      refine o_assign (v := v1) rfl ?_
      refine wpList_nil ?_
      refine blk_n ?_
      refine then_n ?_
      refine one_reg ?_
      refine o_add (r := ((k + 1 : Nat) : Int)) rfl rfl (nw (by omega) (by omega) (by omega)) ?_
      refine o_move (v := (.int .i64 ((k + 1 : Nat) : Int))) rfl ?_
      refine wpList_nil ?_
      refine then_n ?_
      have hE := Lk.fo_in hx1 (hr2.1 ht2)
      exact ⟨_, _, rfl, ⟨k + 1, v1, F1, _, rfl, (upd_in rfl (upd_in rfl (upd_in rfl (upd_in rfl (upd_in rfl rfl))))), (by rw [hE]; simpa using (hS8.sublist (ms' := [vec v1 28 3 ((Lk.fo l k).length + 1) ((Lk.fo l k ++ [(x1.1, x1.2.1, x1.2.2)]).flatMap encLk), emap b1 (fun y : ByteArray => Value.string y) F1]) (by simp))), by have := lt_of_getq hx1; omega, ho2, by rw [take_snoc hx1]; exact hgd1⟩, by have := lt_of_getq hx1; omega⟩
    · refine wp_skip ?_
      refine blk_n ?_
      refine then_n ?_
      refine one_reg ?_
      refine o_add (r := ((k + 1 : Nat) : Int)) rfl rfl (nw (by omega) (by omega) (by omega)) ?_
      refine o_move (v := (.int .i64 ((k + 1 : Nat) : Int))) rfl ?_
      refine wpList_nil ?_
      refine then_n ?_
      have hE := Lk.fo_out hx1 (Classical.byContradiction fun hc => by rw [hr2.2 hc] at ht2; cases ht2)
      exact ⟨_, _, rfl, ⟨k + 1, v1, F1, _, rfl, (upd_in rfl (upd_in rfl (upd_in rfl (upd_in rfl (upd_in rfl rfl))))), (by rw [hE]; simpa using (hS5.sublist (ms' := [vec v1 28 3 ((Lk.fo l k).length) ((Lk.fo l k).flatMap encLk), emap b1 (fun y : ByteArray => Value.string y) F1]) (by simp))), by have := lt_of_getq hx1; omega, hone, by rw [take_snoc hx1]; exact hgd1⟩, by have := lt_of_getq hx1; omega⟩
  · refine wp_exit ?_
    refine then_e ?_
    refine then_e ?_
    refine blk_hit ?_
    refine then_n ?_
    refine seq_reg ?_
    refine o_move (v := v1) rfl ?_
    refine o_assign (v := v1) rfl ?_
    refine wpList_nil ?_
    refine then_n ?_
    refine wp_ret ?_
    refine ret1 rfl (show ev _ _ _ = v1 from rfl) ?_
    obtain rfl : k = l.length := by omega
    obtain ⟨σ1, hS9, hsub1, hfr1⟩ := hS2.freeze (i := 0) rfl rfl rfl
    exact ⟨v1, σ1, rfl, hS9.done, RSl.ofVecEnc encLk_len (hS2.get (i := 0) rfl) hfr1 rfl (by omega)⟩

theorem r_Has {σ : Hv} {w : World} (v : Value) (l : List ByteArray) (s : ByteArray) (hV : View σ w) (hv : RSl 1 (REnc encTx) σ v l) :
    Calls Try.prog 17 #[v, (.string s)] w fun e w1 => ∃ r : Bool, e = .returned (.bool r) ∧ (r = true ↔ s ∈ l) ∧ Grow [] σ w σ w1 := by
  refine enter Try.func17 rfl rfl rfl ?_
  obtain ⟨a0, cap0, rfl, h10, h20, hel0⟩ := hv
  have hS := St.start hV
  refine seq_reg ?_
  refine o_assign (v := (.bool false)) rfl ?_
  refine wpList_nil ?_
  refine then_n ?_
  refine wp_seq ?_
  refine seq_reg ?_
  refine o_assign (v := (.int .i64 (0 : Int))) rfl ?_
  refine wpList_nil ?_
  refine then_n ?_
  refine wp_block ?_
  refine loop (fun m f z => ∃ (k : Nat) (g : Fr), m = l.length - k ∧ f = (upd (upd (upd g 0 (.slice a0 l.length cap0)) 1 (.string s)) 5 (.int .i64 ((k : Nat) : Int))) ∧ St ⟨w, σ, []⟩ z σ [] ∧ (k ≤ l.length) ∧ (s ∉ l.take k)) (m0 := _) ⟨0, _, rfl, (upd_in rfl (upd_in rfl (upd_in rfl rfl))), hS, Nat.zero_le _, by simp⟩ ?_
  rintro _ _ w1 ⟨k, g, rfl, rfl, hS1, hk, hno⟩
  refine wp_seq ?_
  refine seq_reg ?_
  refine o_move (v := (.int .i64 ((k : Nat) : Int))) rfl ?_
  refine o_move (v := (.slice a0 l.length cap0)) rfl ?_
  refine o_len_slice rfl Try.underlying29 ?_
  refine o_lss (r := (decide (((k : Nat) : Int) < ((l.length : Nat) : Int)))) rfl rfl rfl ?_
  refine wpList_nil ?_
  refine then_n ?_
  refine if_d (((k : Nat) : Int) < ((l.length : Nat) : Int)) rfl (fun ht1 => ?_) (fun ht1 => ?_)
  · refine wp_skip ?_
    refine then_n ?_
    refine wp_seq ?_
    refine wp_block ?_
    refine seq_reg ?_
    refine o_move (v := (.slice a0 l.length cap0)) rfl ?_
    refine o_move (v := (.int .i64 ((k : Nat) : Int))) rfl ?_
    obtain ⟨x1, hx1⟩ := getq (l := l) (k := k) (by omega)
    obtain ⟨ad1, cs1, ha1, hl1, hr1, hR1⟩ := hel0 k _ hx1
    cases hR1
    refine o_iaddr_slice (k := k) (a' := (ad1.add (k * 1))) (congrArg (fun z => Value.slice z _ _) ha1) rfl (by omega) (lt_of_getq hx1) Try.underlying29 Try.sizeOf9 rfl ?_
    refine o_load (v := (.string x1)) rfl Try.isAgg9 (hr1.cell hS1.view 0 rfl rfl) ?_
    refine o_move (v := (.string s)) rfl ?_
    refine o_eqls (r := (decide (x1 = s))) rfl rfl rfl ?_
    refine wpList_nil ?_
    refine then_n ?_
    refine if_d (x1 = s) rfl (fun ht2 => ?_) (fun ht2 => ?_)
    · refine seq_reg ?_
      refine o_assign (v := (.bool true)) rfl ?_
      refine wpList_nil ?_
      refine then_n ?_
      refine wp_ret ?_
      refine blk_r ?_
      refine then_r ?_
      refine then_r ?_
      refine blk_r ?_
      refine then_r ?_
      refine ret1 rfl (show ev _ _ _ = (.bool true) from rfl) ?_
      exact ⟨true, rfl, by subst ht2; simp [List.mem_of_getElem? hx1], hS1.done⟩
    · refine wp_skip ?_
      refine blk_n ?_
      refine then_n ?_
      refine one_reg ?_
      refine o_move (v := (.int .i64 ((k : Nat) : Int))) rfl ?_
      refine o_add (r := ((k + 1 : Nat) : Int)) rfl rfl (nw (by omega) (by omega) (by omega)) ?_
      refine o_assign (v := (.int .i64 ((k + 1 : Nat) : Int))) rfl ?_
      refine wpList_nil ?_
      refine then_n ?_
      exact ⟨_, _, rfl, ⟨k + 1, _, rfl, (upd_in rfl (upd_in rfl (upd_in rfl rfl))), hS1, by have := lt_of_getq hx1; omega, by rw [take_snoc hx1]; simp [hno]; exact fun e => ht2 e.symm⟩, by have := lt_of_getq hx1; omega⟩
  · refine wp_exit ?_
    refine then_e ?_
    refine then_e ?_
    refine blk_hit ?_
    refine then_n ?_
    refine seq_reg ?_
    refine o_assign (v := (.bool false)) rfl ?_
    refine wpList_nil ?_
    refine then_n ?_
    refine wp_ret ?_
    refine ret1 rfl (show ev _ _ _ = (.bool false) from rfl) ?_
    rw [List.take_of_length_le (show l.length ≤ k by omega)] at hno
    exact ⟨false, rfl, by simp [hno], hS1.done⟩

theorem r_SameT {σ : Hv} {w : World} (v v2 : Value) (l : List ByteArray) (hV : View σ w) (hv : RSl 1 (REnc encTx) σ v l) (hv2 : RSl 1 (REnc encTx) σ v2 l) :
    Calls Try.prog 19 #[v, v2] w fun e w1 => e = .returned (.bool true) ∧ Grow [] σ w σ w1 := by
  refine enter Try.func19 rfl rfl rfl ?_
  obtain ⟨a0, cap0, rfl, h10, h20, hel0⟩ := hv
  obtain ⟨a1, cap1, rfl, h11, h21, hel1⟩ := hv2
  have hS := St.start hV
  refine seq_reg ?_
  refine o_assign (v := (.bool false)) rfl ?_
  refine wpList_nil ?_
  refine then_n ?_
  refine wp_seq ?_
  refine seq_reg ?_
  refine o_move (v := (.slice a0 l.length cap0)) rfl ?_
  refine o_len_slice rfl Try.underlying29 ?_
  refine o_move (v := (.slice a1 l.length cap1)) rfl ?_
  refine o_len_slice rfl Try.underlying29 ?_
  refine o_neq (r := (!decide (((l.length : Nat) : Int) = ((l.length : Nat) : Int)))) rfl rfl rfl ?_
  refine wpList_nil ?_
  refine then_n ?_
  refine if_nd (((l.length : Nat) : Int) = ((l.length : Nat) : Int)) rfl (fun ht1 => ?_) (fun ht1 => ?_)
  · exact absurd (by simp) ht1
  · refine wp_skip ?_
    refine then_n ?_
    refine wp_seq ?_
    refine seq_reg ?_
    refine o_assign (v := (.int .i64 (0 : Int))) rfl ?_
    refine wpList_nil ?_
    refine then_n ?_
    refine wp_block ?_
    refine loop (fun m f z => ∃ (k : Nat) (g : Fr), m = l.length - k ∧ f = (upd (upd (upd g 0 (.slice a0 l.length cap0)) 1 (.slice a1 l.length cap1)) 5 (.int .i64 ((k : Nat) : Int))) ∧ St ⟨w, σ, []⟩ z σ [] ∧ (k ≤ l.length)) (m0 := _) ⟨0, _, rfl, (upd_in rfl (upd_in rfl (upd_in rfl rfl))), hS, Nat.zero_le _⟩ ?_
    rintro _ _ w1 ⟨k, g, rfl, rfl, hS1, hk⟩
    refine wp_seq ?_
    refine seq_reg ?_
    refine o_move (v := (.int .i64 ((k : Nat) : Int))) rfl ?_
    refine o_move (v := (.slice a0 l.length cap0)) rfl ?_
    refine o_len_slice rfl Try.underlying29 ?_
    refine o_lss (r := (decide (((k : Nat) : Int) < ((l.length : Nat) : Int)))) rfl rfl rfl ?_
    refine wpList_nil ?_
    refine then_n ?_
    refine if_d (((k : Nat) : Int) < ((l.length : Nat) : Int)) rfl (fun ht2 => ?_) (fun ht2 => ?_)
    · refine wp_skip ?_
      refine then_n ?_
      refine wp_seq ?_
      refine wp_block ?_
      refine wp_seq ?_
      refine d_reg (fun z => St ⟨w, σ, []⟩ z σ []) (by kernel_rfl) rfl rfl ?_
      have hS2 := hS1.drew
      refine d_take (i := 0) (v := (.slice a0 l.length cap0)) (l' := #[true, false, false, false, false, false, false, false, false]) rfl (by kernel_rfl) (by kernel_rfl) (by kernel_rfl) rfl rfl (fun _ _ _ h => h) hS2 (fun w hJ K hK => ?_) ?_
      · refine o_move (v := (.slice a0 l.length cap0)) rfl ?_
        exact ⟨rfl, hK⟩
      refine d_take (i := 1) (v := (.int .i64 ((k : Nat) : Int))) (l' := #[true, true, false, false, false, false, false, false, false]) rfl (by kernel_rfl) (by kernel_rfl) (by kernel_rfl) rfl rfl (fun _ _ _ h => h) hS2 (fun w hJ K hK => ?_) ?_
      · refine o_move (v := (.int .i64 ((k : Nat) : Int))) rfl ?_
        exact ⟨rfl, hK⟩
      obtain ⟨x1, hx1⟩ := getq (l := l) (k := k) (by omega)
      obtain ⟨ad1, cs1, ha1, hl1, hr1, hR1⟩ := hel0 k _ hx1
      cases hR1
      refine d_take (i := 2) (v := (.pointer (some (ad1.add (k * 1))))) (l' := #[true, true, true, false, false, false, false, false, false]) rfl (by kernel_rfl) (by kernel_rfl) (by kernel_rfl) rfl rfl (fun _ _ _ h => h) hS2 (fun w hJ K hK => ?_) ?_
      · refine o_iaddr_slice (k := k) (a' := (ad1.add (k * 1))) (congrArg (fun z => Value.slice z _ _) ha1) rfl (by omega) (lt_of_getq hx1) Try.underlying29 Try.sizeOf9 rfl ?_
        exact ⟨rfl, hK⟩
      refine d_take (i := 3) (v := (.string x1)) (l' := #[true, true, true, true, false, false, false, false, false]) rfl (by kernel_rfl) (by kernel_rfl) (by kernel_rfl) rfl rfl (fun _ _ _ h => h) hS2 (fun w hJ K hK => ?_) ?_
      · refine o_load (v := (.string x1)) rfl Try.isAgg9 (hr1.cell hJ.view 0 rfl rfl) ?_
        exact ⟨rfl, hK⟩
      refine d_take (i := 4) (v := (.slice a1 l.length cap1)) (l' := #[true, true, true, true, true, false, false, false, false]) rfl (by kernel_rfl) (by kernel_rfl) (by kernel_rfl) rfl rfl (fun _ _ _ h => h) hS2 (fun w hJ K hK => ?_) ?_
      · refine o_move (v := (.slice a1 l.length cap1)) rfl ?_
        exact ⟨rfl, hK⟩
      refine d_take (i := 5) (v := (.int .i64 ((k : Nat) : Int))) (l' := #[true, true, true, true, true, true, false, false, false]) rfl (by kernel_rfl) (by kernel_rfl) (by kernel_rfl) rfl rfl (fun _ _ _ h => h) hS2 (fun w hJ K hK => ?_) ?_
      · refine o_move (v := (.int .i64 ((k : Nat) : Int))) rfl ?_
        exact ⟨rfl, hK⟩
      obtain ⟨ad2, cs2, ha2, hl2, hr2, hR2⟩ := hel1 k _ hx1
      cases hR2
      refine d_take (i := 6) (v := (.pointer (some (ad2.add (k * 1))))) (l' := #[true, true, true, true, true, true, true, false, false]) rfl (by kernel_rfl) (by kernel_rfl) (by kernel_rfl) rfl rfl (fun _ _ _ h => h) hS2 (fun w hJ K hK => ?_) ?_
      · refine o_iaddr_slice (k := k) (a' := (ad2.add (k * 1))) (congrArg (fun z => Value.slice z _ _) ha2) rfl (by omega) (lt_of_getq hx1) Try.underlying29 Try.sizeOf9 rfl ?_
        exact ⟨rfl, hK⟩
      refine d_take (i := 7) (v := (.string x1)) (l' := #[true, true, true, true, true, true, true, true, false]) rfl (by kernel_rfl) (by kernel_rfl) (by kernel_rfl) rfl rfl (fun _ _ _ h => h) hS2 (fun w hJ K hK => ?_) ?_
      · refine o_load (v := (.string x1)) rfl Try.isAgg9 (hr2.cell hJ.view 0 rfl rfl) ?_
        exact ⟨rfl, hK⟩
      refine d_take (i := 8) (v := (.bool (!decide (x1 = x1)))) (l' := #[true, true, true, true, true, true, true, true, true]) rfl (by kernel_rfl) (by kernel_rfl) (by kernel_rfl) rfl rfl (fun _ _ _ h => h) hS2 (fun w hJ K hK => ?_) ?_
      · refine o_neqs (r := (!decide (x1 = x1))) rfl rfl rfl ?_
        exact ⟨rfl, hK⟩
      refine d_done (by kernel_rfl) ?_
      refine then_n ?_
      refine if_nd (x1 = x1) rfl (fun ht3 => ?_) (fun ht3 => ?_)
      · exact absurd (by simp) ht3
      · refine wp_skip ?_
        refine blk_n ?_
        refine then_n ?_
        refine one_reg ?_
        refine o_move (v := (.int .i64 ((k : Nat) : Int))) rfl ?_
        refine o_add (r := ((k + 1 : Nat) : Int)) rfl rfl (nw (by omega) (by omega) (by omega)) ?_
        refine o_assign (v := (.int .i64 ((k + 1 : Nat) : Int))) rfl ?_
        refine wpList_nil ?_
        refine then_n ?_
        exact ⟨_, _, rfl, ⟨k + 1, _, rfl, (upd_in rfl (upd_in rfl (upd_in rfl rfl))), hS2, by omega⟩, by omega⟩
    · refine wp_exit ?_
      refine then_e ?_
      refine then_e ?_
      refine blk_hit ?_
      refine then_n ?_
      refine seq_reg ?_
      refine o_assign (v := (.bool true)) rfl ?_
      refine wpList_nil ?_
      refine then_n ?_
      refine wp_ret ?_
      refine ret1 rfl (show ev _ _ _ = (.bool true) from rfl) ?_
      exact ⟨rfl, hS1.done⟩

theorem g_28 (op : BinOp) (x y : Operand) (a b : Array Value) : ∀ w, (eqGuard op 28 x y (.agg a) (.agg b)).run Try.prog w = .ok () w :=
  fun w => run_eqGuard_agg w op 28 x y a b (by kernel_rfl)
theorem e_28 (a0 b0 : ByteArray) (a1 b1 : ByteArray) (a2 b2 : Int) : ∀ w, (binOp .eql 28 (.agg #[.string a0, .string a1, .int .i64 a2]) (.agg #[.string b0, .string b1, .int .i64 b2])).run Try.prog w = .ok (.bool (decide (a0 = b0 ∧ a1 = b1 ∧ a2 = b2))) w := by
  intro w
  rw [run_eql_struct, run_equalIn_struct w 9999 28 _ _ (by kernel_rfl) (by kernel_rfl)]
  have ei3 : ∀ (x y : Int) (w : World), (Op.equalIn 9999 3 (.int .i64 x) (.int .i64 y)).run Try.prog w = .ok (x == y) w := fun x y w => run_equalIn_int w 9998 3 _ _ x y Try.underlying3
  have es9 : ∀ (x y : ByteArray) (w : World), (Op.equalIn 9999 9 (.string x) (.string y)).run Try.prog w = .ok (decide (x = y)) w := fun x y w => by rw [run_equalIn_string w 9998 9 x y Try.underlying9, bytes_beq]
  rw [show (Try.prog.fieldsOf 28).toList = [⟨ "A", 9, 0, False, "", "", 0⟩, ⟨ "B", 9, 1, False, "", "", 16⟩, ⟨ "Time", 3, 2, False, "", "", 32⟩] from by kernel_rfl]
  by_cases h0 : a0 = b0 <;> by_cases h1 : a1 = b1 <;> by_cases h2 : a2 = b2 <;> simp [Op.eqFields, part, h0, h1, h2, ei3, es9]
theorem ne_28 (a0 b0 : ByteArray) (a1 b1 : ByteArray) (a2 b2 : Int) : ∀ w, (binOp .neq 28 (.agg #[.string a0, .string a1, .int .i64 a2]) (.agg #[.string b0, .string b1, .int .i64 b2])).run Try.prog w = .ok (.bool (!decide (a0 = b0 ∧ a1 = b1 ∧ a2 = b2))) w := by
  intro w
  rw [run_neq_struct, run_equalIn_struct w 9999 28 _ _ (by kernel_rfl) (by kernel_rfl)]
  have ei3 : ∀ (x y : Int) (w : World), (Op.equalIn 9999 3 (.int .i64 x) (.int .i64 y)).run Try.prog w = .ok (x == y) w := fun x y w => run_equalIn_int w 9998 3 _ _ x y Try.underlying3
  have es9 : ∀ (x y : ByteArray) (w : World), (Op.equalIn 9999 9 (.string x) (.string y)).run Try.prog w = .ok (decide (x = y)) w := fun x y w => by rw [run_equalIn_string w 9998 9 x y Try.underlying9, bytes_beq]
  rw [show (Try.prog.fieldsOf 28).toList = [⟨ "A", 9, 0, False, "", "", 0⟩, ⟨ "B", 9, 1, False, "", "", 16⟩, ⟨ "Time", 3, 2, False, "", "", 32⟩] from by kernel_rfl]
  by_cases h0 : a0 = b0 <;> by_cases h1 : a1 = b1 <;> by_cases h2 : a2 = b2 <;> simp [Op.eqFields, part, h0, h1, h2, ei3, es9]

theorem r_SameLinks {σ : Hv} {w : World} (v v2 : Value) (l : List Lk.L3) (hV : View σ w) (hv : RSl 3 (REnc encLk) σ v l) (hv2 : RSl 3 (REnc encLk) σ v2 l) :
    Calls Try.prog 22 #[v, v2] w fun e w1 => e = .returned (.bool true) ∧ Grow [] σ w σ w1 := by
  refine enter Try.func22 rfl rfl rfl ?_
  obtain ⟨a0, cap0, rfl, h10, h20, hel0⟩ := hv
  obtain ⟨a1, cap1, rfl, h11, h21, hel1⟩ := hv2
  have hS := St.start hV
  refine seq_reg ?_
  refine o_assign (v := (.bool false)) rfl ?_
  refine wpList_nil ?_
  refine then_n ?_
  refine wp_seq ?_
  refine seq_reg ?_
  refine o_move (v := (.slice a0 l.length cap0)) rfl ?_
  refine o_len_slice rfl Try.underlying24 ?_
  refine o_move (v := (.slice a1 l.length cap1)) rfl ?_
  refine o_len_slice rfl Try.underlying24 ?_
  refine o_neq (r := (!decide (((l.length : Nat) : Int) = ((l.length : Nat) : Int)))) rfl rfl rfl ?_
  refine wpList_nil ?_
  refine then_n ?_
  refine if_nd (((l.length : Nat) : Int) = ((l.length : Nat) : Int)) rfl (fun ht1 => ?_) (fun ht1 => ?_)
  · exact absurd (by simp) ht1
  · refine wp_skip ?_
    refine then_n ?_
    refine wp_seq ?_
    refine seq_reg ?_
    refine o_assign (v := (.int .i64 (0 : Int))) rfl ?_
    refine wpList_nil ?_
    refine then_n ?_
    refine wp_block ?_
    refine loop (fun m f z => ∃ (k : Nat) (g : Fr), m = l.length - k ∧ f = (upd (upd (upd g 0 (.slice a0 l.length cap0)) 1 (.slice a1 l.length cap1)) 5 (.int .i64 ((k : Nat) : Int))) ∧ St ⟨w, σ, []⟩ z σ [] ∧ (k ≤ l.length)) (m0 := _) ⟨0, _, rfl, (upd_in rfl (upd_in rfl (upd_in rfl rfl))), hS, Nat.zero_le _⟩ ?_
    rintro _ _ w1 ⟨k, g, rfl, rfl, hS1, hk⟩
    refine wp_seq ?_
    refine seq_reg ?_
    refine o_move (v := (.int .i64 ((k : Nat) : Int))) rfl ?_
    refine o_move (v := (.slice a0 l.length cap0)) rfl ?_
    refine o_len_slice rfl Try.underlying24 ?_
    refine o_lss (r := (decide (((k : Nat) : Int) < ((l.length : Nat) : Int)))) rfl rfl rfl ?_
    refine wpList_nil ?_
    refine then_n ?_
    refine if_d (((k : Nat) : Int) < ((l.length : Nat) : Int)) rfl (fun ht2 => ?_) (fun ht2 => ?_)
    · refine wp_skip ?_
      refine then_n ?_
      refine wp_seq ?_
      refine wp_block ?_
      refine wp_seq ?_
      refine d_reg (fun z => St ⟨w, σ, []⟩ z σ []) (by kernel_rfl) rfl rfl ?_
      have hS2 := hS1.drew
      refine d_take (i := 0) (v := (.slice a0 l.length cap0)) (l' := #[true, false, false, false, false, false, false, false, false]) rfl (by kernel_rfl) (by kernel_rfl) (by kernel_rfl) rfl rfl (fun _ _ _ h => h) hS2 (fun w hJ K hK => ?_) ?_
      · refine o_move (v := (.slice a0 l.length cap0)) rfl ?_
        exact ⟨rfl, hK⟩
      refine d_take (i := 1) (v := (.int .i64 ((k : Nat) : Int))) (l' := #[true, true, false, false, false, false, false, false, false]) rfl (by kernel_rfl) (by kernel_rfl) (by kernel_rfl) rfl rfl (fun _ _ _ h => h) hS2 (fun w hJ K hK => ?_) ?_
      · refine o_move (v := (.int .i64 ((k : Nat) : Int))) rfl ?_
        exact ⟨rfl, hK⟩
      obtain ⟨x1, hx1⟩ := getq (l := l) (k := k) (by omega)
      obtain ⟨ad1, cs1, ha1, hl1, hr1, hR1⟩ := hel0 k _ hx1
      cases hR1
      refine d_take (i := 2) (v := (.pointer (some (ad1.add (k * 3))))) (l' := #[true, true, true, false, false, false, false, false, false]) rfl (by kernel_rfl) (by kernel_rfl) (by kernel_rfl) rfl rfl (fun _ _ _ h => h) hS2 (fun w hJ K hK => ?_) ?_
      · refine o_iaddr_slice (k := k) (a' := (ad1.add (k * 3))) (congrArg (fun z => Value.slice z _ _) ha1) rfl (by omega) (lt_of_getq hx1) Try.underlying24 Try.sizeOf28 rfl ?_
        exact ⟨rfl, hK⟩
      refine d_take (i := 3) (v := (.agg #[(.string x1.1), (.string x1.2.1), (.int .i64 x1.2.2)])) (l' := #[true, true, true, true, false, false, false, false, false]) rfl (by kernel_rfl) (by kernel_rfl) (by kernel_rfl) rfl rfl (fun _ _ _ h => h) hS2 (fun w hJ K hK => ?_) ?_
      · refine o_loadA (cs := [(.string x1.1), (.string x1.2.1), (.int .i64 x1.2.2)]) rfl Try.isAgg28 Try.sizeOf28 rfl (hr1.row hJ.view) ?_
        exact ⟨rfl, hK⟩
      refine d_take (i := 4) (v := (.slice a1 l.length cap1)) (l' := #[true, true, true, true, true, false, false, false, false]) rfl (by kernel_rfl) (by kernel_rfl) (by kernel_rfl) rfl rfl (fun _ _ _ h => h) hS2 (fun w hJ K hK => ?_) ?_
      · refine o_move (v := (.slice a1 l.length cap1)) rfl ?_
        exact ⟨rfl, hK⟩
      refine d_take (i := 5) (v := (.int .i64 ((k : Nat) : Int))) (l' := #[true, true, true, true, true, true, false, false, false]) rfl (by kernel_rfl) (by kernel_rfl) (by kernel_rfl) rfl rfl (fun _ _ _ h => h) hS2 (fun w hJ K hK => ?_) ?_
      · refine o_move (v := (.int .i64 ((k : Nat) : Int))) rfl ?_
        exact ⟨rfl, hK⟩
      obtain ⟨ad2, cs2, ha2, hl2, hr2, hR2⟩ := hel1 k _ hx1
      cases hR2
      refine d_take (i := 6) (v := (.pointer (some (ad2.add (k * 3))))) (l' := #[true, true, true, true, true, true, true, false, false]) rfl (by kernel_rfl) (by kernel_rfl) (by kernel_rfl) rfl rfl (fun _ _ _ h => h) hS2 (fun w hJ K hK => ?_) ?_
      · refine o_iaddr_slice (k := k) (a' := (ad2.add (k * 3))) (congrArg (fun z => Value.slice z _ _) ha2) rfl (by omega) (lt_of_getq hx1) Try.underlying24 Try.sizeOf28 rfl ?_
        exact ⟨rfl, hK⟩
      refine d_take (i := 7) (v := (.agg #[(.string x1.1), (.string x1.2.1), (.int .i64 x1.2.2)])) (l' := #[true, true, true, true, true, true, true, true, false]) rfl (by kernel_rfl) (by kernel_rfl) (by kernel_rfl) rfl rfl (fun _ _ _ h => h) hS2 (fun w hJ K hK => ?_) ?_
      · refine o_loadA (cs := [(.string x1.1), (.string x1.2.1), (.int .i64 x1.2.2)]) rfl Try.isAgg28 Try.sizeOf28 rfl (hr2.row hJ.view) ?_
        exact ⟨rfl, hK⟩
      refine d_take (i := 8) (v := (.bool (!decide (x1.1 = x1.1 ∧ x1.2.1 = x1.2.1 ∧ x1.2.2 = x1.2.2)))) (l' := #[true, true, true, true, true, true, true, true, true]) rfl (by kernel_rfl) (by kernel_rfl) (by kernel_rfl) rfl rfl (fun _ _ _ h => h) hS2 (fun w hJ K hK => ?_) ?_
      · refine o_neqA (r := (!decide (x1.1 = x1.1 ∧ x1.2.1 = x1.2.1 ∧ x1.2.2 = x1.2.2))) rfl rfl (g_28 _ _ _ _ _) (ne_28 _ _ _ _ _ _) ?_
        exact ⟨rfl, hK⟩
      refine d_done (by kernel_rfl) ?_
      refine then_n ?_
      refine if_nd (x1.1 = x1.1 ∧ x1.2.1 = x1.2.1 ∧ x1.2.2 = x1.2.2) rfl (fun ht3 => ?_) (fun ht3 => ?_)
      · exact absurd (by simp) ht3
      · refine wp_skip ?_
        refine blk_n ?_
        refine then_n ?_
        refine one_reg ?_
        refine o_move (v := (.int .i64 ((k : Nat) : Int))) rfl ?_
        refine o_add (r := ((k + 1 : Nat) : Int)) rfl rfl (nw (by omega) (by omega) (by omega)) ?_
        refine o_assign (v := (.int .i64 ((k + 1 : Nat) : Int))) rfl ?_
        refine wpList_nil ?_
        refine then_n ?_
        exact ⟨_, _, rfl, ⟨k + 1, _, rfl, (upd_in rfl (upd_in rfl (upd_in rfl rfl))), hS2, by omega⟩, by omega⟩
    · refine wp_exit ?_
      refine then_e ?_
      refine then_e ?_
      refine blk_hit ?_
      refine then_n ?_
      refine seq_reg ?_
      refine o_assign (v := (.bool true)) rfl ?_
      refine wpList_nil ?_
      refine then_n ?_
      refine wp_ret ?_
      refine ret1 rfl (show ev _ _ _ = (.bool true) from rfl) ?_
      exact ⟨rfl, hS1.done⟩

theorem r_Until {σ : Hv} {w : World} (v : Value) (l : List Lk.L3) (t : Int) (hV : View σ w) (hv : RSl 3 (REnc encLk) σ v l) (hlen : l.length ≤ 1000) :
    Calls Try.prog 27 #[v, (.int .i64 t)] w fun e w1 => ∃ (v1 : Value) (σ1 : Hv), e = .returned v1 ∧ Grow [] σ w σ1 w1 ∧ RSl 3 (REnc encLk) σ1 v1 (Lk.upto t l) := by
  refine enter Try.func27 rfl rfl rfl ?_
  obtain ⟨a, cap, rfl, h1, h2, hel⟩ := hv
  have hS := St.start hV
  refine seq_reg ?_
  refine o_assign (v := (.slice none 0 0)) rfl ?_
  refine wpList_nil ?_
  refine then_n ?_
  refine seq_reg ?_
  refine o_assign (v := (.slice none 0 0)) rfl ?_
  refine wpList_nil ?_
  refine then_n ?_
  refine wp_seq ?_
  refine seq_reg ?_
  refine o_assign (v := (.int .i64 (0 : Int))) rfl ?_
  refine wpList_nil ?_
  refine then_n ?_
  refine wp_block ?_
  have hSn := hS.addNil 28 3
  refine loop (fun m f z => ∃ (k : Nat) (v1 : Value) (g : Fr), m = l.length - k ∧ f = (upd (upd (upd (upd g 0 (.slice a l.length cap)) 1 (.int .i64 t)) 5 v1) 6 (.int .i64 ((k : Nat) : Int))) ∧ St ⟨w, σ, []⟩ z σ [vec v1 28 3 ((Lk.upto t (l.take k)).length) ((Lk.upto t (l.take k)).flatMap encLk)] ∧ (k ≤ l.length) ∧ (v1.oneCell' = true)) (m0 := _) ⟨0, _, _, rfl, (upd_in rfl (upd_in rfl (upd_in rfl (upd_in rfl rfl)))), hSn, Nat.zero_le _, rfl⟩ ?_
  rintro _ _ w1 ⟨k, v1, g, rfl, rfl, hS1, hk, hone⟩
  have hul := Lk.upto_len t (l.take k)
  rw [List.length_take] at hul
  refine wp_seq ?_
  refine seq_reg ?_
  refine o_move (v := (.int .i64 ((k : Nat) : Int))) rfl ?_
  refine o_move (v := (.slice a l.length cap)) rfl ?_
  refine o_len_slice rfl Try.underlying24 ?_
  refine o_lss (r := (decide (((k : Nat) : Int) < ((l.length : Nat) : Int)))) rfl rfl rfl ?_
  refine wpList_nil ?_
  refine then_n ?_
  refine if_d (((k : Nat) : Int) < ((l.length : Nat) : Int)) rfl (fun ht1 => ?_) (fun ht1 => ?_)
  · refine wp_skip ?_
    refine then_n ?_
    refine wp_seq ?_
    refine wp_block ?_
    refine seq_reg ?_
    refine o_move (v := (.slice a l.length cap)) rfl ?_
    refine o_move (v := (.int .i64 ((k : Nat) : Int))) rfl ?_
    obtain ⟨x1, hx1⟩ := getq (l := l) (k := k) (by omega)
    obtain ⟨ad1, cs1, ha1, hl1, hr1, hR1⟩ := hel k _ hx1
    cases hR1
    refine o_iaddr_slice (k := k) (a' := (ad1.add (k * 3))) (congrArg (fun z => Value.slice z _ _) ha1) rfl (by omega) (lt_of_getq hx1) Try.underlying24 Try.sizeOf28 rfl ?_
    refine o_faddr (a' := (((ad1.add (k * 3))).add 2)) rfl Try.underlying28 rfl Try.sizeOf3 rfl ?_
    refine o_load (v := (.int .i64 x1.2.2)) rfl Try.isAgg3 (hr1.cell hS1.view 2 rfl rfl) ?_
    refine o_move (v := (.int .i64 t)) rfl ?_
    refine o_leq (r := (decide (x1.2.2 ≤ t))) rfl rfl rfl ?_
    refine wpList_nil ?_
    refine then_n ?_
    refine if_d (x1.2.2 ≤ t) rfl (fun ht2 => ?_) (fun ht2 => ?_)
    · refine one_reg ?_
      refine o_move (v := v1) rfl ?_
      refine o_move (v := (.slice a l.length cap)) rfl ?_
      refine o_move (v := (.int .i64 ((k : Nat) : Int))) rfl ?_
      refine o_iaddr_slice (k := k) (a' := (ad1.add (k * 3))) (congrArg (fun z => Value.slice z _ _) ha1) rfl (by omega) (lt_of_getq hx1) Try.underlying24 Try.sizeOf28 rfl ?_
      refine o_loadA (cs := [(.string x1.1), (.string x1.2.1), (.int .i64 x1.2.2)]) rfl Try.isAgg28 Try.sizeOf28 rfl (hr1.row hS1.view) ?_
      refine o_bslice (cs := [(.string x1.1), (.string x1.2.1), (.int .i64 x1.2.2)]) (e := 28) hS1 (fun _ => by kernel_rfl) ?_
      intro b1 w2 hS2
      refine o_append (Ms := fun v1 => [blk b1 28 [(.string x1.1), (.string x1.2.1), (.int .i64 x1.2.2)], vec v1 28 3 ((Lk.upto t (l.take k)).length + 1) ((Lk.upto t (l.take k) ++ [(x1.1, x1.2.1, x1.2.2)]).flatMap encLk)]) (xs' := (Lk.upto t (l.take k) ++ [(x1.1, x1.2.1, x1.2.2)]).flatMap encLk) Try.underlying24 Try.type28 rfl rfl (bytes := 40) rfl rfl (Nat.succ_pos _) hS2 rfl (q := 1) rfl rfl rfl (blk_row (hS2.get (i := 0) rfl)) (ones rfl) (by omega) (by unfold maxLen; omega) (flat_snoc _ (x1.1, x1.2.1, x1.2.2)) (fun _ => rfl) ?_
      intro v1 w3 ho1 hS3
      have hS4 := hS3.drop 0 (ms' := [vec v1 28 3 ((Lk.upto t (l.take k)).length + 1) ((Lk.upto t (l.take k) ++ [(x1.1, x1.2.1, x1.2.2)]).flatMap encLk)]) rfl
      refine o_assign (v := v1) rfl ?_
      refine wpList_nil ?_
      refine blk_n ?_
      refine then_n ?_
      refine one_reg ?_
      refine o_move (v := (.int .i64 ((k : Nat) : Int))) rfl ?_
      refine o_add (r := ((k + 1 : Nat) : Int)) rfl rfl (nw (by omega) (by omega) (by omega)) ?_
      refine o_assign (v := (.int .i64 ((k + 1 : Nat) : Int))) rfl ?_
      refine wpList_nil ?_
      refine then_n ?_
      exact ⟨_, _, rfl, ⟨k + 1, v1, _, rfl, (upd_in rfl (upd_in rfl (upd_in rfl (upd_in rfl rfl)))), (by rw [take_snoc hx1, Lk.upto_in ht2]; simpa using hS4), by have := lt_of_getq hx1; omega, ho1⟩, by have := lt_of_getq hx1; omega⟩
    · refine wp_skip ?_
      refine blk_n ?_
      refine then_n ?_
      refine one_reg ?_
      refine o_move (v := (.int .i64 ((k : Nat) : Int))) rfl ?_
      refine o_add (r := ((k + 1 : Nat) : Int)) rfl rfl (nw (by omega) (by omega) (by omega)) ?_
      refine o_assign (v := (.int .i64 ((k + 1 : Nat) : Int))) rfl ?_
      refine wpList_nil ?_
      refine then_n ?_
      exact ⟨_, _, rfl, ⟨k + 1, v1, _, rfl, (upd_in rfl (upd_in rfl (upd_in rfl (upd_in rfl rfl)))), (by rw [take_snoc hx1, Lk.upto_out ht2]; simpa using hS1), by have := lt_of_getq hx1; omega, hone⟩, by have := lt_of_getq hx1; omega⟩
  · refine wp_exit ?_
    refine then_e ?_
    refine then_e ?_
    refine blk_hit ?_
    refine then_n ?_
    refine seq_reg ?_
    refine o_move (v := v1) rfl ?_
    refine o_assign (v := v1) rfl ?_
    refine wpList_nil ?_
    refine then_n ?_
    refine wp_ret ?_
    refine ret1 rfl (show ev _ _ _ = v1 from rfl) ?_
    have hkl : l.take k = l := List.take_of_length_le (by omega)
    rw [hkl] at hS1
    have hul2 := Lk.upto_len t l
    obtain ⟨σ1, hS5, hsub1, hfr1⟩ := hS1.freeze (i := 0) rfl rfl rfl
    exact ⟨v1, σ1, rfl, hS5.done, RSl.ofVecEnc encLk_len (hS1.get (i := 0) rfl) hfr1 rfl (by omega)⟩


end Go.Proofs.Ytehmnkholidanaa
