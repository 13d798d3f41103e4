/- What a call answers, and that it leaves the memory that was there as it was: (flagstone/identity.forest).root, (flagstone/identity.forest).join. Conditions: those of each statement (that the arguments can be read). -/
import Derived.Test.YtehmnkholidanaaRows
import Derived.Test.YtehmnkholidanaaFlSort
import Derived.Test.YtehmnkholidanaaShelf
import Derived.KernelRfl
namespace Go.Proofs.Ytehmnkholidanaa
open Go Go.RowKit Go.Fl

theorem c_root {σ : Hv} {w : World} (b : Nat) (F : ByteArray → Option ByteArray) (l : List Lk.L3) (x : ByteArray) (hgd : Lk.Good l F) (hV : View σ w) (ho : (emap b (fun y : ByteArray => Value.string y) F).ok w) (hσ : σ b = none) :
    Calls Try.prog 32 #[(.map (some b)), (.string x)] w fun e w1 => ∃ r, e = .returned (.string r) ∧ Lk.Conn l x r ∧ F r = none ∧ Grow [b] σ w σ w1 ∧ (emap b (fun y : ByteArray => Value.string y) F).ok w1 := by
  refine enter Try.func32 rfl rfl rfl ?_
  have hS := St.start1 hV ho rfl hσ
  refine seq_reg ?_
  refine o_assign (v := (.string ⟨#[]⟩)) rfl ?_
  refine wpList_nil ?_
  refine then_n ?_
  refine wp_block ?_
  refine loop (fun m f z => ∃ (y : ByteArray) (g : Fr), m = Lk.below l y ∧ f = (upd (upd g 0 (.map (some b))) 1 (.string y)) ∧ St ⟨w, σ, [b]⟩ z σ [emap b (fun y : ByteArray => Value.string y) F] ∧ (Lk.Conn l x y)) (m0 := _) ⟨x, _, rfl, (upd_in rfl (upd_in rfl rfl)), hS, Lk.Conn.refl l x⟩ ?_
  rintro _ _ w1 ⟨y, g, rfl, rfl, hS1, hc⟩
  refine wp_block ?_
  refine seq_reg ?_
  refine o_move (v := (.map (some b))) rfl ?_
  refine o_move (v := (.string y)) rfl ?_
  rcases hF1 : F y with _ | y1
  · refine o_elook_ok (v := (.string ⟨#[]⟩)) (r := false) (i := 0) hS1 rfl rfl rfl Try.underlying49 Try.underlying9 Try.zeroValue9 (by simp [hF1]) (by simp [hF1]) ?_
    refine o_move (v := (.tuple #[(.string ⟨#[]⟩), (.bool false)])) rfl ?_
    refine o_extract (v := (.string ⟨#[]⟩)) rfl rfl ?_
    refine o_extract (v := (.bool false)) rfl rfl ?_
    refine o_assign (v := (.string ⟨#[]⟩)) rfl ?_
    refine o_assign (v := (.bool false)) rfl ?_
    refine wpList_nil ?_
    refine then_n ?_
    refine wp_seq ?_
    refine seq_reg ?_
    refine o_move (v := (.bool false)) rfl ?_
    refine o_not (r := true) rfl rfl ?_
    refine wpList_nil ?_
    refine then_n ?_
    refine if_t rfl ?_
    refine seq_reg ?_
    refine o_move (v := (.string y)) rfl ?_
    refine o_assign (v := (.string y)) rfl ?_
    refine wpList_nil ?_
    refine then_n ?_
    refine wp_ret ?_
    refine then_r ?_
    refine blk_r ?_
    refine then_r ?_
    refine blk_r ?_
    refine ret1 rfl (show ev _ _ _ = (.string y) from rfl) ?_
    exact ⟨y, rfl, hc, hF1, hS1.done, hS1.get (i := 0) rfl⟩
  · refine o_elook_ok (v := (.string y1)) (r := true) (i := 0) hS1 rfl rfl rfl Try.underlying49 Try.underlying9 Try.zeroValue9 (by simp [hF1]) (by simp [hF1]) ?_
    refine o_move (v := (.tuple #[(.string y1), (.bool true)])) rfl ?_
    refine o_extract (v := (.string y1)) rfl rfl ?_
    refine o_extract (v := (.bool true)) rfl rfl ?_
    refine o_assign (v := (.string y1)) rfl ?_
    refine o_assign (v := (.bool true)) rfl ?_
    refine wpList_nil ?_
    refine then_n ?_
    refine wp_seq ?_
    refine seq_reg ?_
    refine o_move (v := (.bool true)) rfl ?_
    refine o_not (r := false) rfl rfl ?_
    refine wpList_nil ?_
    refine then_n ?_
    refine if_f rfl ?_
    refine wp_skip ?_
    refine then_n ?_
    refine one_reg ?_
    refine o_move (v := (.string y1)) rfl ?_
    refine o_assign (v := (.string y1)) rfl ?_
    refine wpList_nil ?_
    refine blk_n ?_
    refine then_n ?_
    exact ⟨_, _, rfl, ⟨y1, _, rfl, (upd_in rfl (upd_in rfl rfl)), hS1, hc.trans (hgd.less _ _ hF1).2⟩, hgd.down hF1⟩

theorem c_join {σ : Hv} {w : World} (b : Nat) (F : ByteArray → Option ByteArray) (l : List Lk.L3) (q : Lk.L3) (hgd : Lk.Good l F) (hV : View σ w) (ho : (emap b (fun y : ByteArray => Value.string y) F).ok w) (hσ : σ b = none) :
    Calls Try.prog 37 #[(.map (some b)), (.string q.1), (.string q.2.1)] w fun e w1 => ∃ (r : Bool) (F1 : ByteArray → Option ByteArray), e = .returned (.bool r) ∧ (r = true ↔ ¬ Lk.Conn l q.1 q.2.1) ∧ Lk.Good (l ++ [q]) F1 ∧ Grow [b] σ w σ w1 ∧ (emap b (fun y : ByteArray => Value.string y) F1).ok w1 := by
  refine enter Try.func37 rfl rfl rfl ?_
  have hS := St.start1 hV ho rfl hσ
  refine seq_reg ?_
  refine o_assign (v := (.bool false)) rfl ?_
  refine wpList_nil ?_
  refine then_n ?_
  refine seq_reg ?_
  refine o_move (v := (.map (some b))) rfl ?_
  refine o_move (v := (.string q.1)) rfl ?_
  refine o_call (args := [(.map (some b)), (.string q.1)]) rfl Try.call32 (Calls.mono (c_root _ _ l q.1 hgd hS.view (hS.get (i := 0) rfl) (hS.off _ (List.mem_of_getElem? (i := 0) rfl) _ rfl)) ?_)
  rintro _ w1 ⟨r1, rfl, hrc1, hrn1, hg1, ho1⟩
  refine ⟨_, rfl, ?_⟩
  have hS1 := hS.growM hg1 (i := 0) (o' := emap b (fun y : ByteArray => Value.string y) F) rfl rfl rfl ho1 rfl
  refine o_move (v := (.map (some b))) rfl ?_
  refine o_move (v := (.string q.2.1)) rfl ?_
  refine o_call (args := [(.map (some b)), (.string q.2.1)]) rfl Try.call32 (Calls.mono (c_root _ _ l q.2.1 hgd hS1.view (hS1.get (i := 0) rfl) (hS1.off _ (List.mem_of_getElem? (i := 0) rfl) _ rfl)) ?_)
  rintro _ w2 ⟨r2, rfl, hrc2, hrn2, hg2, ho2⟩
  refine ⟨_, rfl, ?_⟩
  have hS2 := hS1.growM hg2 (i := 0) (o' := emap b (fun y : ByteArray => Value.string y) F) rfl rfl rfl ho2 rfl
  refine o_assign (v := (.string r1)) rfl ?_
  refine o_assign (v := (.string r2)) rfl ?_
  refine wpList_nil ?_
  refine then_n ?_
  refine wp_seq ?_
  refine seq_reg ?_
  refine o_move (v := (.string r1)) rfl ?_
  refine o_move (v := (.string r2)) rfl ?_
  refine o_eqls (r := (decide (r1 = r2))) rfl rfl rfl ?_
  refine wpList_nil ?_
  refine then_n ?_
  refine if_d (r1 = r2) rfl (fun ht1 => ?_) (fun ht1 => ?_)
  · refine seq_reg ?_
    refine o_assign (v := (.bool false)) rfl ?_
    refine wpList_nil ?_
    refine then_n ?_
    refine wp_ret ?_
    refine then_r ?_
    refine ret1 rfl (show ev _ _ _ = (.bool false) from rfl) ?_
    have lx := hgd.least hrc1 hrn1
    have ly := hgd.least hrc2 hrn2
    have hcc : Lk.Conn l q.1 q.2.1 := (lx.conn ly).1 ht1
    exact ⟨false, F, rfl, by simp [hcc], hgd.same hcc, hS2.done, hS2.get (i := 0) rfl⟩
  · refine wp_skip ?_
    refine then_n ?_
    refine seq_reg ?_
    by_cases hbl1 : Lk.blt r1 r2
    · refine o_move (v := (.map (some b))) rfl ?_
      refine o_move (v := (.string r1)) rfl ?_
      refine o_move (v := (.string r2)) rfl ?_
      refine o_maxs (r := r2) rfl rfl (if_pos hbl1) ?_
      refine o_move (v := (.string r1)) rfl ?_
      refine o_move (v := (.string r2)) rfl ?_
      refine o_mins (r := r1) rfl rfl (if_neg (Lk.blt_asymm hbl1)) ?_
      refine o_eput (y0 := r1) (i := 0) (ms' := [emap b (fun y : ByteArray => Value.string y) (put F r2 r1)]) hS2 rfl rfl rfl rfl Try.underlying49 Try.underlying9 rfl ?_
      intro w3 hS3
      refine wpList_nil ?_
      refine then_n ?_
      refine seq_reg ?_
      refine o_assign (v := (.bool true)) rfl ?_
      refine wpList_nil ?_
      refine then_n ?_
      refine wp_ret ?_
      refine ret1 rfl (show ev _ _ _ = (.bool true) from rfl) ?_
      have lx := hgd.least hrc1 hrn1
      have ly := hgd.least hrc2 hrn2
      have hcc : ¬ Lk.Conn l q.1 q.2.1 := fun hc => ht1 ((lx.conn ly).2 hc)
      exact ⟨true, put F r2 r1, rfl, by simp [hcc], hgd.join hrc1 hrc2 hrn1 hrn2 hbl1 (.inr ⟨rfl, rfl⟩), hS3.done, hS3.get (i := 0) rfl⟩
    · have hbl2 : Lk.blt r2 r1 := Classical.byContradiction fun h => ht1 (Lk.blt_tri hbl1 h)
      refine o_move (v := (.map (some b))) rfl ?_
      refine o_move (v := (.string r1)) rfl ?_
      refine o_move (v := (.string r2)) rfl ?_
      refine o_maxs (r := r1) rfl rfl (if_neg (Lk.blt_asymm hbl2)) ?_
      refine o_move (v := (.string r1)) rfl ?_
      refine o_move (v := (.string r2)) rfl ?_
      refine o_mins (r := r2) rfl rfl (if_pos hbl2) ?_
      refine o_eput (y0 := r2) (i := 0) (ms' := [emap b (fun y : ByteArray => Value.string y) (put F r1 r2)]) hS2 rfl rfl rfl rfl Try.underlying49 Try.underlying9 rfl ?_
      intro w4 hS4
      refine wpList_nil ?_
      refine then_n ?_
      refine seq_reg ?_
      refine o_assign (v := (.bool true)) rfl ?_
      refine wpList_nil ?_
      refine then_n ?_
      refine wp_ret ?_
      refine ret1 rfl (show ev _ _ _ = (.bool true) from rfl) ?_
      have lx := hgd.least hrc1 hrn1
      have ly := hgd.least hrc2 hrn2
      have hcc : ¬ Lk.Conn l q.1 q.2.1 := fun hc => ht1 ((lx.conn ly).2 hc)
      exact ⟨true, put F r1 r2, rfl, by simp [hcc], hgd.join hrc1 hrc2 hrn1 hrn2 hbl2 (.inl ⟨rfl, rfl⟩), hS4.done, hS4.get (i := 0) rfl⟩


end Go.Proofs.Ytehmnkholidanaa
