/- What a call answers, and that it leaves the memory that was there as it was: flagstone/identity.of, flagstone/identity.Root, flagstone/identity.Same. Conditions: those of each statement (that the arguments can be read). -/
import Derived.Test.YtehmnkholidanaaRows
import Derived.Test.YtehmnkholidanaaFlSort
import Derived.Test.YtehmnkholidanaaShelf
import Derived.KernelRfl
import Derived.Test.YtehmnkholidanaaA1
namespace Go.Proofs.Ytehmnkholidanaa
open Go Go.RowKit Go.Fl

theorem c_of {σ : Hv} {w : World} (v : Value) (l : List Lk.L3) (hV : View σ w) (hv : RSl 3 (REnc encLk) σ v l) :
    Calls Try.prog 31 #[v] w fun e w1 => ∃ (b : Nat) (F : ByteArray → Option ByteArray), e = .returned (.map (some b)) ∧ Lk.Good l F ∧ Grow [] σ w σ w1 ∧ (emap b (fun y : ByteArray => Value.string y) F).ok w1 ∧ ∀ k, (emap b (fun y : ByteArray => Value.string y) F).foot = some k → w.heap.size ≤ k ∧ σ k = none := by
  refine enter Try.func31 rfl rfl rfl ?_
  obtain ⟨a, cap, rfl, h1, h2, hel⟩ := hv
  have hS := St.start hV
  refine seq_reg ?_
  refine o_assign (v := (.map none)) rfl ?_
  refine wpList_nil ?_
  refine then_n ?_
  refine seq_reg ?_
  refine o_emake (fun y : ByteArray => Value.string y) hS ?_
  intro b1 w1 hS1
  refine o_assign (v := (.map (some b1))) rfl ?_
  refine wpList_nil ?_
  refine then_n ?_
  refine wp_seq ?_
  refine seq_reg ?_
  refine o_move (v := (.slice a l.length cap)) rfl ?_
  refine o_len_slice rfl Try.underlying24 ?_
  refine o_move (v := (.int .i64 (0 : Int))) rfl ?_
  refine wpList_nil ?_
  refine then_n ?_
  refine wp_block ?_
  refine loop (fun m f z => ∃ (k : Nat) (F : ByteArray → Option ByteArray) (g : Fr), m = l.length - k ∧ f = (upd (upd (upd (upd g 3 (.map (some b1))) 7 (.slice a l.length cap)) 8 (.int .i64 ((l.length : Nat) : Int))) 9 (.int .i64 ((k : Nat) : Int))) ∧ St ⟨w, σ, []⟩ z σ [emap b1 (fun y : ByteArray => Value.string y) F] ∧ (k ≤ l.length) ∧ (Lk.Good (l.take k) F)) (m0 := _) ⟨0, _, _, rfl, (upd_in rfl (upd_in rfl (upd_in rfl (upd_in rfl rfl)))), hS1, Nat.zero_le _, Lk.good_nil⟩ ?_
  rintro _ _ w2 ⟨k, F, g, rfl, rfl, hS2, hk, hgd⟩
  refine seq_reg ?_
  refine o_lss (r := (decide (((k : Nat) : Int) < ((l.length : Nat) : Int)))) rfl rfl rfl ?_
  refine wpList_nil ?_
  refine then_n ?_
  refine wp_seq ?_
  refine if_d (((k : Nat) : Int) < ((l.length : Nat) : Int)) rfl (fun ht1 => ?_) (fun ht1 => ?_)
  · refine wp_skip ?_
    refine then_n ?_
    refine wp_seq ?_
    refine wp_block ?_
    refine seq_reg ?_
    obtain ⟨x1, hx1⟩ := getq (l := l) (k := k) (by omega)
    obtain ⟨ad1, cs1, ha1, hl1, hr1, hR1⟩ := hel k _ hx1
    cases hR1
    refine o_iaddr_slice (k := k) (a' := (ad1.add (k * 3))) (congrArg (fun z => Value.slice z _ _) ha1) rfl (by omega) (lt_of_getq hx1) Try.underlying24 Try.sizeOf28 rfl ?_
    refine o_loadA (cs := [(.string x1.1), (.string x1.2.1), (.int .i64 x1.2.2)]) rfl Try.isAgg28 Try.sizeOf28 rfl (hr1.row hS2.view) ?_
    refine o_alloc (cs := [(.string ⟨#[]⟩), (.string ⟨#[]⟩), (.int .i64 (0 : Int))]) hS2 Try.zeroValue28 rfl ?_
    intro b2 w3 hS3
    refine o_store (T := 28) (vs := [(.string x1.1), (.string x1.2.1), (.int .i64 x1.2.2)]) (cs' := [(.string x1.1), (.string x1.2.1), (.int .i64 x1.2.2)]) (ms' := [blk b2 28 [(.string x1.1), (.string x1.2.1), (.int .i64 x1.2.2)], emap b1 (fun y : ByteArray => Value.string y) F]) (i := 0) hS3 rfl rfl rfl Try.sizeOf28 rfl (ones rfl) rfl (Nat.le_of_ble_eq_true rfl) rfl rfl ?_
    intro w4 hS4
    refine wpList_nil ?_
    refine then_n ?_
    refine one_reg ?_
    refine o_move (v := (.map (some b1))) rfl ?_
    refine o_faddr (a' := ⟨b2, 0, none⟩) rfl Try.underlying28 rfl Try.sizeOf9 rfl ?_
    refine o_load (v := (.string x1.1)) rfl Try.isAgg9 (hS4.cell (i := 0) rfl rfl) ?_
    refine o_faddr (a' := ⟨b2, 1, none⟩) rfl Try.underlying28 rfl Try.sizeOf9 rfl ?_
    refine o_load (v := (.string x1.2.1)) rfl Try.isAgg9 (hS4.cell (i := 0) rfl rfl) ?_
    refine o_call (args := [(.map (some b1)), (.string x1.1), (.string x1.2.1)]) rfl Try.call37 (Calls.mono (c_join _ _ (l.take k) x1 hgd hS4.view (hS4.get (i := 1) rfl) (hS4.off _ (List.mem_of_getElem? (i := 1) rfl) _ rfl)) ?_)
    rintro _ w5 ⟨r1, F1, rfl, hr2, hgd1, hg1, ho1⟩
    refine ⟨_, rfl, ?_⟩
    have hS5 := hS4.growM hg1 (i := 1) (o' := emap b1 (fun y : ByteArray => Value.string y) F1) rfl rfl rfl ho1 (ms' := [blk b2 28 [(.string x1.1), (.string x1.2.1), (.int .i64 x1.2.2)], emap b1 (fun y : ByteArray => Value.string y) F1]) rfl
    refine wpList_nil ?_
    refine blk_n ?_
    refine then_n ?_
    refine one_reg ?_
    refine o_add (r := ((k + 1 : Nat) : Int)) rfl rfl (nw (by omega) (by omega) (by omega)) ?_
    refine o_move (v := (.int .i64 ((k + 1 : Nat) : Int))) rfl ?_
    refine wpList_nil ?_
    refine then_n ?_
    exact ⟨_, _, rfl, ⟨k + 1, F1, _, rfl, (upd_in rfl (upd_in rfl (upd_in rfl (upd_in rfl rfl)))), (hS5.drop 0 rfl), by have := lt_of_getq hx1; omega, by rw [take_snoc hx1]; exact hgd1⟩, by have := lt_of_getq hx1; omega⟩
  · refine wp_exit ?_
    refine then_e ?_
    refine then_e ?_
    refine blk_hit ?_
    refine then_n ?_
    refine seq_reg ?_
    refine o_move (v := (.map (some b1))) rfl ?_
    refine o_assign (v := (.map (some b1))) rfl ?_
    refine wpList_nil ?_
    refine then_n ?_
    refine wp_ret ?_
    refine ret1 rfl (show ev _ _ _ = (.map (some b1)) from rfl) ?_
    rw [List.take_of_length_le (show l.length ≤ k by omega)] at hgd
    exact ⟨b1, F, rfl, hgd, hS2.done, hS2.own1 (i := 0) rfl⟩

theorem c_Root {σ : Hv} {w : World} (v : Value) (l : List Lk.L3) (x : ByteArray) (hV : View σ w) (hv : RSl 3 (REnc encLk) σ v l) :
    Calls Try.prog 20 #[v, (.string x)] w fun e w1 => ∃ r, e = .returned (.string r) ∧ Lk.Least l x r ∧ Grow [] σ w σ w1 := by
  refine enter Try.func20 rfl rfl rfl ?_
  obtain ⟨a, cap, rfl, h1, h2, hel⟩ := hv
  have hS := St.start hV
  refine seq_reg ?_
  refine o_assign (v := (.string ⟨#[]⟩)) rfl ?_
  refine wpList_nil ?_
  refine then_n ?_
  refine seq_reg ?_
  refine o_move (v := (.slice a l.length cap)) rfl ?_
  refine o_call (args := [(.slice a l.length cap)]) rfl Try.call31 (Calls.mono (c_of _ l hS.view ⟨a, cap, rfl, h1, h2, hel⟩) ?_)
  rintro _ w1 ⟨b1, F1, rfl, hgd1, hg1, ho1⟩
  refine ⟨_, rfl, ?_⟩
  have hS1 := hS.growAdd hg1 ho1
  refine o_move (v := (.string x)) rfl ?_
  refine o_call (args := [(.map (some b1)), (.string x)]) rfl Try.call32 (Calls.mono (c_root _ _ l x hgd1 hS1.view (hS1.get (i := 0) rfl) (hS1.off _ (List.mem_of_getElem? (i := 0) rfl) _ rfl)) ?_)
  rintro _ w2 ⟨r1, rfl, hrc1, hrn1, hg2, ho2⟩
  refine ⟨_, rfl, ?_⟩
  have hS2 := hS1.growM hg2 (i := 0) (o' := emap b1 (fun y : ByteArray => Value.string y) F1) rfl rfl rfl ho2 rfl
  refine o_assign (v := (.string r1)) rfl ?_
  refine wpList_nil ?_
  refine then_n ?_
  refine wp_ret ?_
  refine ret1 rfl (show ev _ _ _ = (.string r1) from rfl) ?_
  exact ⟨r1, rfl, (hgd1.least hrc1 hrn1), hS2.done⟩

theorem c_Same {σ : Hv} {w : World} (v : Value) (l : List Lk.L3) (x y : ByteArray) (hV : View σ w) (hv : RSl 3 (REnc encLk) σ v l) :
    Calls Try.prog 15 #[v, (.string x), (.string y)] w fun e w1 => ∃ r : Bool, e = .returned (.bool r) ∧ (r = true ↔ Lk.Conn l x y) ∧ Grow [] σ w σ w1 := by
  refine enter Try.func15 rfl rfl rfl ?_
  obtain ⟨a, cap, rfl, h1, h2, hel⟩ := hv
  have hS := St.start hV
  refine seq_reg ?_
  refine o_assign (v := (.bool false)) rfl ?_
  refine wpList_nil ?_
  refine then_n ?_
  refine seq_reg ?_
  refine o_move (v := (.slice a l.length cap)) rfl ?_
  refine o_call (args := [(.slice a l.length cap)]) rfl Try.call31 (Calls.mono (c_of _ l hS.view ⟨a, cap, rfl, h1, h2, hel⟩) ?_)
  rintro _ w1 ⟨b1, F1, rfl, hgd1, hg1, ho1⟩
  refine ⟨_, rfl, ?_⟩
  have hS1 := hS.growAdd hg1 ho1
  refine o_assign (v := (.map (some b1))) rfl ?_
  refine wpList_nil ?_
  refine then_n ?_
  refine seq_reg ?_
  refine o_move (v := (.map (some b1))) rfl ?_
  refine o_move (v := (.string x)) rfl ?_
  refine o_call (args := [(.map (some b1)), (.string x)]) rfl Try.call32 (Calls.mono (c_root _ _ l x hgd1 hS1.view (hS1.get (i := 0) rfl) (hS1.off _ (List.mem_of_getElem? (i := 0) rfl) _ rfl)) ?_)
  rintro _ w2 ⟨r1, rfl, hrc1, hrn1, hg2, ho2⟩
  refine ⟨_, rfl, ?_⟩
  have hS2 := hS1.growM hg2 (i := 0) (o' := emap b1 (fun y : ByteArray => Value.string y) F1) rfl rfl rfl ho2 rfl
  refine o_move (v := (.map (some b1))) rfl ?_
  refine o_move (v := (.string y)) rfl ?_
  refine o_call (args := [(.map (some b1)), (.string y)]) rfl Try.call32 (Calls.mono (c_root _ _ l y hgd1 hS2.view (hS2.get (i := 0) rfl) (hS2.off _ (List.mem_of_getElem? (i := 0) rfl) _ rfl)) ?_)
  rintro _ w3 ⟨r2, rfl, hrc2, hrn2, hg3, ho3⟩
  refine ⟨_, rfl, ?_⟩
  have hS3 := hS2.growM hg3 (i := 0) (o' := emap b1 (fun y : ByteArray => Value.string y) F1) rfl rfl rfl ho3 rfl
  refine o_eqls (r := (decide (r1 = r2))) rfl rfl rfl ?_
  refine o_assign (v := (.bool (decide (r1 = r2)))) rfl ?_
  refine wpList_nil ?_
  refine then_n ?_
  refine wp_ret ?_
  refine ret1 rfl (show ev _ _ _ = (.bool (decide (r1 = r2))) from rfl) ?_
  exact ⟨_, rfl, by rw [decide_eq_true_iff]; exact (hgd1.least hrc1 hrn1).conn (hgd1.least hrc2 hrn2), hS3.done⟩


end Go.Proofs.Ytehmnkholidanaa
