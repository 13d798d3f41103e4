/- What a call answers, and that it leaves the memory that was there as it was: flagstone/flagstoneref26.Members. Conditions: those of each statement (that the arguments can be read). -/
import Derived.Test.YtehmnkholidanaaRows
import Derived.Test.YtehmnkholidanaaFlSort
import Derived.Test.YtehmnkholidanaaShelf
import Derived.KernelRfl
import Derived.Test.YtehmnkholidanaaA4
import Derived.Test.YtehmnkholidanaaA8
namespace Go.Proofs.Ytehmnkholidanaa
open Go Go.RowKit Go.Fl

theorem r_Members {σ : Hv} {w : World} (v : Value) (l : List Lk.L3) (x : ByteArray) (hlen : l.length ≤ 1000) (hV : View σ w) (hv : RSl 3 (REnc encLk) σ v l) :
    Calls Try.prog 24 #[v, (.string x)] w fun e w1 => ∃ (v1 : Value) (ys : List ByteArray) (σ1 : Hv), e = .returned v1 ∧ Grow [] σ w σ1 w1 ∧ RSl 1 (REnc encTx) σ1 v1 ys ∧ Lk.IsMem l x ys := by
  refine enter Try.func24 rfl rfl rfl ?_
  obtain ⟨a, cap, rfl, h1, h2, hel⟩ := hv
  have hS := St.start hV
  refine seq_reg ?_
  refine o_assign (v := (.slice none 0 0)) rfl ?_
  refine wpList_nil ?_
  refine then_n ?_
  refine seq_reg ?_
  refine o_move (v := (.string x)) rfl ?_
  refine o_bslice (cs := [(.string x)]) (e := 9) hS (fun _ => by kernel_rfl) ?_
  intro b1 w1 hS1
  refine o_assign (v := (.slice (some ⟨b1, 0, none⟩) 1 1)) rfl ?_
  refine wpList_nil ?_
  refine then_n ?_
  refine wp_seq ?_
  refine seq_reg ?_
  refine o_assign (v := (.bool true)) rfl ?_
  refine wpList_nil ?_
  refine then_n ?_
  refine wp_block ?_
  obtain ⟨σ1, hS2, hsub1, hfr1⟩ := hS1.freeze (i := 0) rfl rfl rfl
  refine loop (fun m f z => ∃ (σ2 : Hv) (v1 : Value) (l1 : List ByteArray) (ag : Bool) (g : Fr), m = (if ag = true then 2 * l.length + 3 - l1.length else 0) ∧ f = (upd (upd (upd g 0 (.slice a l.length cap)) 5 v1) 6 (.bool (ag))) ∧ St ⟨w, σ, []⟩ z σ2 [] ∧ (Sub σ σ2) ∧ (RSl 1 (REnc encTx) σ2 v1 l1) ∧ (Lk.Asc l1) ∧ (x ∈ l1) ∧ (∀ y ∈ l1, Lk.Conn l x y) ∧ (ag = false → Lk.Closed l l1 l.length)) (m0 := _) ⟨σ1, _, [x], true, _, rfl, (upd_in rfl (upd_in rfl (upd_in rfl rfl))), hS2, (hsub1), (RSl.ofBlk encTx_len (vrow_blk (hS1.get (i := 0) rfl) hfr1) rfl rfl (by omega)), (by simp [Lk.Asc]), (by simp), (by intro y hy; simp at hy; subst hy; exact Lk.Conn.refl l _), (fun h => by cases h)⟩ ?_
  rintro _ _ w2 ⟨σ2, v1, l1, ag, g, rfl, rfl, hS3, hsub, hrd, hasc, hx, hcn, hag⟩
  refine wp_seq ?_
  refine seq_reg ?_
  refine o_move (v := (.bool (ag))) rfl ?_
  refine wpList_nil ?_
  refine then_n ?_
  refine if_b rfl (fun ht1 => ?_) (fun ht1 => ?_)
  · refine wp_skip ?_
    refine then_n ?_
    refine wp_block ?_
    refine seq_reg ?_
    refine o_assign (v := (.bool false)) rfl ?_
    refine wpList_nil ?_
    refine then_n ?_
    refine seq_reg ?_
    refine o_assign (v := (.int .i64 (0 : Int))) rfl ?_
    refine wpList_nil ?_
    refine then_n ?_
    refine wp_block ?_
    refine loop (fun m f z => ∃ (σ3 : Hv) (v2 : Value) (l2 : List ByteArray) (ag2 : Bool) (i : Nat) (g : Fr), m = l.length - i ∧ f = (upd (upd (upd (upd g 0 (.slice a l.length cap)) 5 v2) 6 (.bool (ag2))) 7 (.int .i64 ((i : Nat) : Int))) ∧ St ⟨w, σ, []⟩ z σ3 [] ∧ (Sub σ σ3) ∧ (RSl 1 (REnc encTx) σ3 v2 l2) ∧ (i ≤ l.length) ∧ (Lk.Asc l2) ∧ (x ∈ l2) ∧ (∀ y ∈ l2, Lk.Conn l x y) ∧ (ag2 = false → l2 = l1 ∧ Lk.Closed l l1 i) ∧ (ag2 = true → l1.length < l2.length)) (m0 := _) ⟨σ2, _, _, false, 0, _, rfl, (upd_in rfl (upd_in rfl (upd_in rfl (upd_in rfl rfl)))), hS3, (hsub), (hrd), (Nat.zero_le _), (hasc), (hx), (hcn), (fun _ => ⟨rfl, fun j e hj => by omega⟩), (fun h => by cases h)⟩ ?_
    rintro _ _ w3 ⟨σ3, v2, l2, ag2, i, g, rfl, rfl, hS4, hsub2, hrd2, hi, hasc2, hx2, hcn2, hag2, hgr⟩
    refine wp_seq ?_
    refine seq_reg ?_
    refine o_move (v := (.int .i64 ((i : Nat) : Int))) rfl ?_
    refine o_move (v := (.slice a l.length cap)) rfl ?_
    refine o_len_slice rfl Try.underlying24 ?_
    refine o_lss (r := (decide (((i : Nat) : Int) < ((l.length : Nat) : Int)))) rfl rfl rfl ?_
    refine wpList_nil ?_
    refine then_n ?_
    refine if_d (((i : Nat) : Int) < ((l.length : Nat) : Int)) rfl (fun ht2 => ?_) (fun ht2 => ?_)
    · refine wp_skip ?_
      refine then_n ?_
      refine wp_seq ?_
      refine wp_block ?_
      refine wp_seq ?_
      refine d_reg (fun z => St ⟨w, σ, []⟩ z σ3 []) (by kernel_rfl) rfl rfl ?_
      have hS5 := hS4.drew
      refine d_take (i := 0) (v := v2) (l' := #[true, false, false, false, false, false, false, false, false, false, false, false, false, false, false, false]) rfl (by kernel_rfl) (by kernel_rfl) (by kernel_rfl) rfl rfl (fun _ _ _ h => h) hS5 (fun w hJ K hK => ?_) ?_
      · refine o_move (v := v2) rfl ?_
        exact ⟨rfl, hK⟩
      refine d_take (i := 1) (v := (.slice a l.length cap)) (l' := #[true, true, false, false, false, false, false, false, false, false, false, false, false, false, false, false]) rfl (by kernel_rfl) (by kernel_rfl) (by kernel_rfl) rfl rfl (fun _ _ _ h => h) hS5 (fun w hJ K hK => ?_) ?_
      · refine o_move (v := (.slice a l.length cap)) rfl ?_
        exact ⟨rfl, hK⟩
      refine d_take (i := 2) (v := (.int .i64 ((i : Nat) : Int))) (l' := #[true, true, true, false, false, false, false, false, false, false, false, false, false, false, false, false]) rfl (by kernel_rfl) (by kernel_rfl) (by kernel_rfl) rfl rfl (fun _ _ _ h => h) hS5 (fun w hJ K hK => ?_) ?_
      · refine o_move (v := (.int .i64 ((i : Nat) : Int))) rfl ?_
        exact ⟨rfl, hK⟩
      obtain ⟨x1, hx1⟩ := getq (l := l) (k := i) (by omega)
      obtain ⟨ad1, cs1, ha1, hl1, hr1, hR1⟩ := hel i _ hx1
      cases hR1
      refine d_take (i := 3) (v := (.pointer (some (ad1.add (i * 3))))) (l' := #[true, true, true, true, false, false, false, false, false, false, false, false, false, false, false, false]) rfl (by kernel_rfl) (by kernel_rfl) (by kernel_rfl) rfl rfl (fun _ _ _ h => h) hS5 (fun w hJ K hK => ?_) ?_
      · refine o_iaddr_slice (k := i) (a' := (ad1.add (i * 3))) (congrArg (fun z => Value.slice z _ _) ha1) rfl (by omega) (lt_of_getq hx1) Try.underlying24 Try.sizeOf28 rfl ?_
        exact ⟨rfl, hK⟩
      refine d_take (i := 4) (v := (.pointer (some (((ad1.add (i * 3))).add 0)))) (l' := #[true, true, true, true, true, false, false, false, false, false, false, false, false, false, false, false]) rfl (by kernel_rfl) (by kernel_rfl) (by kernel_rfl) rfl rfl (fun _ _ _ h => h) hS5 (fun w hJ K hK => ?_) ?_
      · refine o_faddr (a' := (((ad1.add (i * 3))).add 0)) rfl Try.underlying28 rfl Try.sizeOf9 rfl ?_
        exact ⟨rfl, hK⟩
      refine d_take (i := 5) (v := (.string x1.1)) (l' := #[true, true, true, true, true, true, false, false, false, false, false, false, false, false, false, false]) rfl (by kernel_rfl) (by kernel_rfl) (by kernel_rfl) rfl rfl (fun _ _ _ h => h) hS5 (fun w hJ K hK => ?_) ?_
      · refine o_load (v := (.string x1.1)) rfl Try.isAgg9 (hr1.cell (View.of hsub2 hJ.view) 0 rfl rfl) ?_
        exact ⟨rfl, hK⟩
      refine d_take (i := 7) (v := v2) (l' := #[true, true, true, true, true, true, false, true, false, false, false, false, false, false, false, false]) rfl (by kernel_rfl) (by kernel_rfl) (by kernel_rfl) rfl rfl (fun _ _ _ h => h) hS5 (fun w hJ K hK => ?_) ?_
      · refine o_move (v := v2) rfl ?_
        exact ⟨rfl, hK⟩
      refine d_take (i := 8) (v := (.slice a l.length cap)) (l' := #[true, true, true, true, true, true, false, true, true, false, false, false, false, false, false, false]) rfl (by kernel_rfl) (by kernel_rfl) (by kernel_rfl) rfl rfl (fun _ _ _ h => h) hS5 (fun w hJ K hK => ?_) ?_
      · refine o_move (v := (.slice a l.length cap)) rfl ?_
        exact ⟨rfl, hK⟩
      refine d_take (i := 9) (v := (.int .i64 ((i : Nat) : Int))) (l' := #[true, true, true, true, true, true, false, true, true, true, false, false, false, false, false, false]) rfl (by kernel_rfl) (by kernel_rfl) (by kernel_rfl) rfl rfl (fun _ _ _ h => h) hS5 (fun w hJ K hK => ?_) ?_
      · refine o_move (v := (.int .i64 ((i : Nat) : Int))) rfl ?_
        exact ⟨rfl, hK⟩
      refine d_take (i := 10) (v := (.pointer (some (ad1.add (i * 3))))) (l' := #[true, true, true, true, true, true, false, true, true, true, true, false, false, false, false, false]) rfl (by kernel_rfl) (by kernel_rfl) (by kernel_rfl) rfl rfl (fun _ _ _ h => h) hS5 (fun w hJ K hK => ?_) ?_
      · refine o_iaddr_slice (k := i) (a' := (ad1.add (i * 3))) (congrArg (fun z => Value.slice z _ _) ha1) rfl (by omega) (lt_of_getq hx1) Try.underlying24 Try.sizeOf28 rfl ?_
        exact ⟨rfl, hK⟩
      refine d_take (i := 11) (v := (.pointer (some (((ad1.add (i * 3))).add 1)))) (l' := #[true, true, true, true, true, true, false, true, true, true, true, true, false, false, false, false]) rfl (by kernel_rfl) (by kernel_rfl) (by kernel_rfl) rfl rfl (fun _ _ _ h => h) hS5 (fun w hJ K hK => ?_) ?_
      · refine o_faddr (a' := (((ad1.add (i * 3))).add 1)) rfl Try.underlying28 rfl Try.sizeOf9 rfl ?_
        exact ⟨rfl, hK⟩
      refine d_take (i := 12) (v := (.string x1.2.1)) (l' := #[true, true, true, true, true, true, false, true, true, true, true, true, true, false, false, false]) rfl (by kernel_rfl) (by kernel_rfl) (by kernel_rfl) rfl rfl (fun _ _ _ h => h) hS5 (fun w hJ K hK => ?_) ?_
      · refine o_load (v := (.string x1.2.1)) rfl Try.isAgg9 (hr1.cell (View.of hsub2 hJ.view) 1 rfl rfl) ?_
        exact ⟨rfl, hK⟩
      refine d_one (i := 6) (by kernel_rfl) rfl (l' := #[true, true, true, true, true, true, true, true, true, true, true, true, true, false, false, false]) rfl ?_
      refine o_call (args := [v2, (.string x1.1)]) rfl Try.call17 (Calls.mono (r_Has _ l2 x1.1 hS5.view hrd2) ?_)
      rintro _ w4 ⟨r1, rfl, hr2, hg1⟩
      refine ⟨_, rfl, ?_⟩
      have hS6 := hS5.grow hg1
      refine wpList_nil ?_
      refine ⟨rfl, hS6, ?_⟩
      refine d_one (i := 13) (by kernel_rfl) rfl (l' := #[true, true, true, true, true, true, true, true, true, true, true, true, true, true, false, false]) rfl ?_
      refine o_call (args := [v2, (.string x1.2.1)]) rfl Try.call17 (Calls.mono (r_Has _ l2 x1.2.1 hS6.view hrd2) ?_)
      rintro _ w5 ⟨r2, rfl, hr3, hg2⟩
      refine ⟨_, rfl, ?_⟩
      have hS7 := hS6.grow hg2
      refine wpList_nil ?_
      refine ⟨rfl, hS7, ?_⟩
      refine d_take (i := 14) (v := (.bool (r1))) (l' := #[true, true, true, true, true, true, true, true, true, true, true, true, true, true, true, false]) rfl (by kernel_rfl) (by kernel_rfl) (by kernel_rfl) rfl rfl (fun _ _ _ h => h) hS7 (fun w hJ K hK => ?_) ?_
      · refine o_assign (v := (.bool (r1))) rfl ?_
        exact ⟨rfl, hK⟩
      refine d_take (i := 15) (v := (.bool (r2))) (l' := #[true, true, true, true, true, true, true, true, true, true, true, true, true, true, true, true]) rfl (by kernel_rfl) (by kernel_rfl) (by kernel_rfl) rfl rfl (fun _ _ _ h => h) hS7 (fun w hJ K hK => ?_) ?_
      · refine o_assign (v := (.bool (r2))) rfl ?_
        exact ⟨rfl, hK⟩
      refine d_done (by kernel_rfl) ?_
      refine then_n ?_
      refine wp_seq ?_
      refine seq_reg ?_
      refine o_move (v := (.bool (r1))) rfl ?_
      refine o_move (v := (.bool (r2))) rfl ?_
      refine o_eqlb (r := ((r1) == (r2))) Try.underlying4 rfl rfl rfl ?_
      refine wpList_nil ?_
      refine then_n ?_
      refine if_b rfl (fun ht3 => ?_) (fun ht3 => ?_)
      · refine wp_exit ?_
        refine then_e ?_
        refine blk_hit ?_
        refine then_n ?_
        refine one_reg ?_
        refine o_move (v := (.int .i64 ((i : Nat) : Int))) rfl ?_
        refine o_add (r := ((i + 1 : Nat) : Int)) rfl rfl (nw (by omega) (by omega) (by omega)) ?_
        refine o_assign (v := (.int .i64 ((i + 1 : Nat) : Int))) rfl ?_
        refine wpList_nil ?_
        refine then_n ?_
        have hki := lt_of_getq hx1
        exact ⟨_, _, rfl, ⟨σ3, v2, l2, ag2, i + 1, _, rfl, (upd_in rfl (upd_in rfl (upd_in rfl (upd_in rfl rfl)))), hS7, (hsub2), (hrd2), (by omega), (hasc2), (hx2), (hcn2), (fun h => by have hq := hag2 h; refine ⟨hq.1, fun j e hj hje => ?_⟩; rcases Nat.lt_or_ge j i with hji | hji; exact hq.2 j e hji hje; obtain rfl : j = i := (by omega); rw [hx1] at hje; cases hje; rw [← hq.1]; exact (by rw [← hr2, ← hr3, eq_of_beq ht3])), (hgr)⟩, by omega⟩
      · refine wp_skip ?_
        refine then_n ?_
        refine seq_reg ?_
        refine o_assign (v := (.bool true)) rfl ?_
        refine wpList_nil ?_
        refine then_n ?_
        refine seq_reg ?_
        refine o_move (v := (.slice a l.length cap)) rfl ?_
        refine o_move (v := (.int .i64 ((i : Nat) : Int))) rfl ?_
        refine o_iaddr_slice (k := i) (a' := (ad1.add (i * 3))) (congrArg (fun z => Value.slice z _ _) ha1) rfl (by omega) (lt_of_getq hx1) Try.underlying24 Try.sizeOf28 rfl ?_
        refine o_faddr (a' := (((ad1.add (i * 3))).add 0)) rfl Try.underlying28 rfl Try.sizeOf9 rfl ?_
        refine o_load (v := (.string x1.1)) rfl Try.isAgg9 (hr1.cell (View.of hsub2 hS7.view) 0 rfl rfl) ?_
        refine o_assign (v := (.string x1.1)) rfl ?_
        refine wpList_nil ?_
        refine then_n ?_
        refine wp_seq ?_
        refine seq_reg ?_
        refine o_move (v := (.bool (r1))) rfl ?_
        refine wpList_nil ?_
        refine then_n ?_
        refine if_b rfl (fun ht4 => ?_) (fun ht4 => ?_)
        · have hnot : x1.2.1 ∉ l2 := fun hm => by have := hr3.2 hm; subst this; rw [ht4] at ht3; cases ht3
          have hcs : Lk.Conn l x x1.2.1 := (hcn2 _ (hr2.1 ht4)).trans (Lk.Conn.link (List.mem_of_getElem? hx1) (.inl ⟨rfl, rfl⟩))
          refine one_reg ?_
          refine o_move (v := (.slice a l.length cap)) rfl ?_
          refine o_move (v := (.int .i64 ((i : Nat) : Int))) rfl ?_
          refine o_iaddr_slice (k := i) (a' := (ad1.add (i * 3))) (congrArg (fun z => Value.slice z _ _) ha1) rfl (by omega) (lt_of_getq hx1) Try.underlying24 Try.sizeOf28 rfl ?_
          refine o_faddr (a' := (((ad1.add (i * 3))).add 1)) rfl Try.underlying28 rfl Try.sizeOf9 rfl ?_
          refine o_load (v := (.string x1.2.1)) rfl Try.isAgg9 (hr1.cell (View.of hsub2 hS7.view) 1 rfl rfl) ?_
          refine o_assign (v := (.string x1.2.1)) rfl ?_
          refine wpList_nil ?_
          refine then_n ?_
          refine one_reg ?_
          refine o_move (v := v2) rfl ?_
          refine o_move (v := (.string x1.2.1)) rfl ?_
          have hml := Lk.mem_len hasc2 hcn2
          refine o_call (args := [v2, (.string x1.2.1)]) rfl Try.call38 (Calls.mono (r_insert _ l2 x1.2.1 hS7.view hrd2 hasc2 hnot (by omega)) ?_)
          rintro _ w6 ⟨v1, li1, σ2, rfl, hg3, hrd1, has1, hmi1, hli1⟩
          refine ⟨_, rfl, ?_⟩
          have hS8 := hS7.grow hg3
          obtain ⟨xa1, ca1, he1⟩ := hrd1.shape
          subst he1
          refine o_assign (v := (.slice xa1 (li1).length ca1)) rfl ?_
          refine wpList_nil ?_
          refine blk_n ?_
          refine then_n ?_
          refine one_reg ?_
          refine o_move (v := (.int .i64 ((i : Nat) : Int))) rfl ?_
          refine o_add (r := ((i + 1 : Nat) : Int)) rfl rfl (nw (by omega) (by omega) (by omega)) ?_
          refine o_assign (v := (.int .i64 ((i + 1 : Nat) : Int))) rfl ?_
          refine wpList_nil ?_
          refine then_n ?_
          have hki := lt_of_getq hx1
          exact ⟨_, _, rfl, ⟨σ2, (.slice xa1 (li1).length ca1), li1, true, i + 1, _, rfl, (upd_in rfl (upd_in rfl (upd_in rfl (upd_in rfl rfl)))), hS8, ((Sub.trans hsub2 hg3.sub)), (hrd1), (by omega), (has1), ((hmi1 x).2 (.inr hx2)), (fun y hy => by rcases (hmi1 y).1 hy with rfl | hy; exact hcs; exact hcn2 y hy), (fun h => by cases h), (fun _ => by rcases hb2 : ag2 with _ | _; (rw [(hag2 hb2).1] at hli1; omega); (have := hgr hb2; omega))⟩, by omega⟩
        · have hbt : r2 = true := by cases hb2 : r2 <;> simp_all
          have hnot : x1.1 ∉ l2 := fun hm => by have := hr2.2 hm; rw [this] at ht4; cases ht4
          have hcs : Lk.Conn l x x1.1 := (hcn2 _ (hr3.1 hbt)).trans (Lk.Conn.link (List.mem_of_getElem? hx1) (.inr ⟨rfl, rfl⟩))
          refine wp_skip ?_
          refine then_n ?_
          refine one_reg ?_
          refine o_move (v := v2) rfl ?_
          refine o_move (v := (.string x1.1)) rfl ?_
          have hml := Lk.mem_len hasc2 hcn2
          refine o_call (args := [v2, (.string x1.1)]) rfl Try.call38 (Calls.mono (r_insert _ l2 x1.1 hS7.view hrd2 hasc2 hnot (by omega)) ?_)
          rintro _ w7 ⟨v2, li2, σ3, rfl, hg4, hrd2, has2, hmi2, hli2⟩
          refine ⟨_, rfl, ?_⟩
          have hS9 := hS7.grow hg4
          obtain ⟨xa2, ca2, he2⟩ := hrd2.shape
          subst he2
          refine o_assign (v := (.slice xa2 (li2).length ca2)) rfl ?_
          refine wpList_nil ?_
          refine blk_n ?_
          refine then_n ?_
          refine one_reg ?_
          refine o_move (v := (.int .i64 ((i : Nat) : Int))) rfl ?_
          refine o_add (r := ((i + 1 : Nat) : Int)) rfl rfl (nw (by omega) (by omega) (by omega)) ?_
          refine o_assign (v := (.int .i64 ((i + 1 : Nat) : Int))) rfl ?_
          refine wpList_nil ?_
          refine then_n ?_
          have hki := lt_of_getq hx1
          exact ⟨_, _, rfl, ⟨σ3, (.slice xa2 (li2).length ca2), li2, true, i + 1, _, rfl, (upd_in rfl (upd_in rfl (upd_in rfl (upd_in rfl rfl)))), hS9, ((Sub.trans hsub2 hg4.sub)), (hrd2), (by omega), (has2), ((hmi2 x).2 (.inr hx2)), (fun y hy => by rcases (hmi2 y).1 hy with rfl | hy; exact hcs; exact hcn2 y hy), (fun h => by cases h), (fun _ => by rcases hb2 : ag2 with _ | _; (rw [(hag2 hb2).1] at hli2; omega); (have := hgr hb2; omega))⟩, by omega⟩
    · refine wp_exit ?_
      refine then_e ?_
      refine then_e ?_
      refine blk_hit ?_
      refine blk_n ?_
      refine then_n ?_
      have hml := Lk.mem_len hasc hcn
      have hml2 := Lk.mem_len hasc2 hcn2
      exact ⟨_, _, rfl, ⟨σ3, v2, l2, (ag2), _, rfl, (upd_in rfl (upd_in rfl (upd_in rfl rfl))), hS4, (hsub2), (hrd2), (hasc2), (hx2), (hcn2), (fun h => by have hq := hag2 h; rw [show i = l.length by omega] at hq; rw [hq.1]; exact hq.2)⟩, by subst ht1; rcases ag2 with _ | _ <;> simp <;> first | omega | (have := hgr rfl; omega)⟩
  · refine wp_exit ?_
    refine then_e ?_
    refine then_e ?_
    refine blk_hit ?_
    refine then_n ?_
    refine seq_reg ?_
    refine o_move (v := v1) rfl ?_
    refine o_assign (v := v1) rfl ?_
    refine wpList_nil ?_
    refine then_n ?_
    refine wp_ret ?_
    refine ret1 rfl (show ev _ _ _ = v1 from rfl) ?_
    exact ⟨v1, l1, σ2, rfl, hS3.done, hrd, Lk.closed_mem hasc hx hcn (hag ht1)⟩


end Go.Proofs.Ytehmnkholidanaa
