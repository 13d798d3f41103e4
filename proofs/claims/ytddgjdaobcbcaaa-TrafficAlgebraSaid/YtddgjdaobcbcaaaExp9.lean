/- What a call answers, and that it leaves the memory that was there as it was: flagstone/flagstonelaw14.TrafficAlgebra. Conditions: those of each statement (that the arguments can be read). -/
import Derived.Test.YtddgjdaobcbcaaaRows
import Derived.Test.YtddgjdaobcbcaaaFlDraw
import Derived.KernelRfl
import Derived.Test.YtddgjdaobcbcaaaExp8
namespace Go.Proofs.Ytddgjdaobcbcaaa
open Go Go.RowKit Go.Fl

theorem law_Algebra {σ : Hv} {w : World} (a b d : Value) (la lb ld : List UInt8) (hV : View σ w) (ha : RSl 1 RU8 σ a la) (hb : RSl 1 RU8 σ b lb) (hd : RSl 1 RU8 σ d ld) :
    Calls Try.prog 3 #[a, b, d] w fun e w1 => e = .returned (.bool true) ∧ Grow [] σ w σ w1 := by
  refine enter Try.func3 rfl rfl rfl ?_
  have hS := St.start hV
  refine seq_reg ?_
  refine o_assign (v := (.bool false)) rfl ?_
  refine wpList_nil ?_
  refine then_n ?_
  refine wp_seq ?_
  refine seq_reg ?_
  refine o_call (args := []) rfl Try.call5 (Calls.mono (c_awake hS.view) ?_)
  rintro _ w1 ⟨rfl, hg1⟩
  refine ⟨_, rfl, ?_⟩
  have hS1 := hS.grow hg1
  refine o_not (r := false) rfl rfl ?_
  refine wpList_nil ?_
  refine then_n ?_
  refine if_f rfl ?_
  refine wp_skip ?_
  refine then_n ?_
  refine seq_reg ?_
  refine o_move (v := a) rfl ?_
  refine o_call (args := [a]) rfl Try.call6 (Calls.mono (c_lawspans _ la hS1.view ha) ?_)
  rintro _ w2 ⟨v1, l1, σ1, rfl, hg2, hrd1, hll1⟩
  refine ⟨_, rfl, ?_⟩
  have hS2 := hS1.grow hg2
  obtain ⟨xa1, ca1, he1⟩ := hrd1.shape
  subst he1
  refine o_move (v := b) rfl ?_
  refine o_call (args := [b]) rfl Try.call6 (Calls.mono (c_lawspans _ lb hS2.view (RSl.menc hg2.sub hb)) ?_)
  rintro _ w3 ⟨v2, l2, σ2, rfl, hg3, hrd2, hll2⟩
  refine ⟨_, rfl, ?_⟩
  have hS3 := hS2.grow hg3
  obtain ⟨xa2, ca2, he2⟩ := hrd2.shape
  subst he2
  refine o_move (v := d) rfl ?_
  refine o_call (args := [d]) rfl Try.call6 (Calls.mono (c_lawspans _ ld hS3.view (RSl.menc (Sub.trans hg2.sub hg3.sub) hd)) ?_)
  rintro _ w4 ⟨v3, l3, σ3, rfl, hg4, hrd3, hll3⟩
  refine ⟨_, rfl, ?_⟩
  have hS4 := hS3.grow hg4
  obtain ⟨xa3, ca3, he3⟩ := hrd3.shape
  subst he3
  refine o_assign (v := (.slice xa1 (l1).length ca1)) rfl ?_
  refine o_assign (v := (.slice xa2 (l2).length ca2)) rfl ?_
  refine o_assign (v := (.slice xa3 (l3).length ca3)) rfl ?_
  refine wpList_nil ?_
  refine then_n ?_
  refine seq_reg ?_
  refine o_move (v := (.slice xa1 (l1).length ca1)) rfl ?_
  refine o_move (v := (.slice xa2 (l2).length ca2)) rfl ?_
  refine o_call (args := [(.slice xa1 (l1).length ca1), (.slice xa2 (l2).length ca2)]) rfl Try.call7 (Calls.mono (c_Union _ _ l1 l2 hS4.view (RSl.menc (Sub.trans hg3.sub hg4.sub) hrd1) (RSl.menc hg4.sub hrd2)) ?_)
  rintro _ w5 ⟨v4, σ4, rfl, hg5, hrd4⟩
  refine ⟨_, rfl, ?_⟩
  have hS5 := hS4.grow hg5
  obtain ⟨xa4, ca4, he4⟩ := hrd4.shape
  subst he4
  refine o_move (v := (.slice xa1 (l1).length ca1)) rfl ?_
  refine o_move (v := (.slice xa2 (l2).length ca2)) rfl ?_
  refine o_call (args := [(.slice xa1 (l1).length ca1), (.slice xa2 (l2).length ca2)]) rfl Try.call8 (Calls.mono (c_Common _ _ l1 l2 hS5.view (RSl.menc (Sub.trans (Sub.trans hg3.sub hg4.sub) hg5.sub) hrd1) (RSl.menc (Sub.trans hg4.sub hg5.sub) hrd2)) ?_)
  rintro _ w6 ⟨v5, σ5, rfl, hg6, hrd5⟩
  refine ⟨_, rfl, ?_⟩
  have hS6 := hS5.grow hg6
  obtain ⟨xa5, ca5, he5⟩ := hrd5.shape
  subst he5
  refine o_move (v := (.slice xa1 (l1).length ca1)) rfl ?_
  refine o_move (v := (.slice xa2 (l2).length ca2)) rfl ?_
  refine o_call (args := [(.slice xa1 (l1).length ca1), (.slice xa2 (l2).length ca2)]) rfl Try.call9 (Calls.mono (c_Minus _ _ l1 l2 hS6.view (RSl.menc (Sub.trans (Sub.trans (Sub.trans hg3.sub hg4.sub) hg5.sub) hg6.sub) hrd1) (RSl.menc (Sub.trans (Sub.trans hg4.sub hg5.sub) hg6.sub) hrd2)) ?_)
  rintro _ w7 ⟨v6, σ6, rfl, hg7, hrd6⟩
  refine ⟨_, rfl, ?_⟩
  have hS7 := hS6.grow hg7
  obtain ⟨xa6, ca6, he6⟩ := hrd6.shape
  subst he6
  refine o_assign (v := (.slice xa4 ((Sp.runs (fun i => Sp.cov l1 i || Sp.cov l2 i) 10000)).length ca4)) rfl ?_
  refine o_assign (v := (.slice xa5 ((Sp.runs (fun i => Sp.cov l1 i && Sp.cov l2 i) 10000)).length ca5)) rfl ?_
  refine o_assign (v := (.slice xa6 ((Sp.runs (fun i => Sp.cov l1 i && !Sp.cov l2 i) 10000)).length ca6)) rfl ?_
  refine wpList_nil ?_
  refine then_n ?_
  refine wp_seq ?_
  refine seq_reg ?_
  have eU : Sp.cnt (Sp.cov (Sp.runs (fun i => Sp.cov l1 i || Sp.cov l2 i) 10000)) 10000 = Sp.cnt (fun i => Sp.cov l1 i || Sp.cov l2 i) 10000 := Sp.cnt_congr (fun i hi => Sp.cov_norm hi)
  have eC : Sp.cnt (Sp.cov (Sp.runs (fun i => Sp.cov l1 i && Sp.cov l2 i) 10000)) 10000 = Sp.cnt (fun i => Sp.cov l1 i && Sp.cov l2 i) 10000 := Sp.cnt_congr (fun i hi => Sp.cov_norm hi)
  have eM : Sp.cnt (Sp.cov (Sp.runs (fun i => Sp.cov l1 i && !Sp.cov l2 i) 10000)) 10000 = Sp.cnt (fun i => Sp.cov l1 i && !Sp.cov l2 i) 10000 := Sp.cnt_congr (fun i hi => Sp.cov_norm hi)
  have eA := Sp.cnt_add (Sp.cov l1) (Sp.cov l2) 10000
  have eP := Sp.cnt_part (Sp.cov l1) (Sp.cov l2) 10000
  have eN : (Sp.runs (fun i => Sp.cov (Sp.runs (fun i => Sp.cov l1 i && !Sp.cov l2 i) 10000) i && Sp.cov l2 i) 10000).length = 0 := by
    rw [Sp.runs_empty (fun i hi => by rw [Sp.cov_norm hi]; cases Sp.cov l2 i <;> simp)]; rfl
  refine o_move (v := (.slice xa4 ((Sp.runs (fun i => Sp.cov l1 i || Sp.cov l2 i) 10000)).length ca4)) rfl ?_
  refine o_call (args := [(.slice xa4 ((Sp.runs (fun i => Sp.cov l1 i || Sp.cov l2 i) 10000)).length ca4)]) rfl Try.call10 (Calls.mono (c_Size _ (Sp.runs (fun i => Sp.cov l1 i || Sp.cov l2 i) 10000) hS7.view (RSl.menc (Sub.trans hg6.sub hg7.sub) hrd4)) ?_)
  rintro _ w8 ⟨rfl, hg8⟩
  refine ⟨_, rfl, ?_⟩
  have hS8 := hS7.grow hg8
  have hcl1 := Sp.cnt_le (Sp.cov (Sp.runs (fun i => Sp.cov l1 i || Sp.cov l2 i) 10000)) 10000
  refine o_move (v := (.slice xa5 ((Sp.runs (fun i => Sp.cov l1 i && Sp.cov l2 i) 10000)).length ca5)) rfl ?_
  refine o_call (args := [(.slice xa5 ((Sp.runs (fun i => Sp.cov l1 i && Sp.cov l2 i) 10000)).length ca5)]) rfl Try.call10 (Calls.mono (c_Size _ (Sp.runs (fun i => Sp.cov l1 i && Sp.cov l2 i) 10000) hS8.view (RSl.menc hg7.sub hrd5)) ?_)
  rintro _ w9 ⟨rfl, hg9⟩
  refine ⟨_, rfl, ?_⟩
  have hS9 := hS8.grow hg9
  have hcl2 := Sp.cnt_le (Sp.cov (Sp.runs (fun i => Sp.cov l1 i && Sp.cov l2 i) 10000)) 10000
  refine o_add (r := ((Sp.cnt (Sp.cov (Sp.runs (fun i => Sp.cov l1 i || Sp.cov l2 i) 10000)) 10000 + (Sp.cnt (Sp.cov (Sp.runs (fun i => Sp.cov l1 i && Sp.cov l2 i) 10000)) 10000) : Nat) : Int)) rfl rfl (nw (by omega) (by omega) (by omega)) ?_
  refine o_move (v := (.slice xa1 (l1).length ca1)) rfl ?_
  refine o_call (args := [(.slice xa1 (l1).length ca1)]) rfl Try.call10 (Calls.mono (c_Size _ l1 hS9.view (RSl.menc (Sub.trans (Sub.trans (Sub.trans (Sub.trans hg3.sub hg4.sub) hg5.sub) hg6.sub) hg7.sub) hrd1)) ?_)
  rintro _ w10 ⟨rfl, hg10⟩
  refine ⟨_, rfl, ?_⟩
  have hS10 := hS9.grow hg10
  have hcl3 := Sp.cnt_le (Sp.cov l1) 10000
  refine o_move (v := (.slice xa2 (l2).length ca2)) rfl ?_
  refine o_call (args := [(.slice xa2 (l2).length ca2)]) rfl Try.call10 (Calls.mono (c_Size _ l2 hS10.view (RSl.menc (Sub.trans (Sub.trans (Sub.trans hg4.sub hg5.sub) hg6.sub) hg7.sub) hrd2)) ?_)
  rintro _ w11 ⟨rfl, hg11⟩
  refine ⟨_, rfl, ?_⟩
  have hS11 := hS10.grow hg11
  have hcl4 := Sp.cnt_le (Sp.cov l2) 10000
  refine o_add (r := ((Sp.cnt (Sp.cov l1) 10000 + (Sp.cnt (Sp.cov l2) 10000) : Nat) : Int)) rfl rfl (nw (by omega) (by omega) (by omega)) ?_
  refine o_neq (r := (!decide (((Sp.cnt (Sp.cov (Sp.runs (fun i => Sp.cov l1 i || Sp.cov l2 i) 10000)) 10000 + (Sp.cnt (Sp.cov (Sp.runs (fun i => Sp.cov l1 i && Sp.cov l2 i) 10000)) 10000) : Nat) : Int) = ((Sp.cnt (Sp.cov l1) 10000 + (Sp.cnt (Sp.cov l2) 10000) : Nat) : Int)))) rfl rfl rfl ?_
  by_cases hb1 : ((Sp.cnt (Sp.cov (Sp.runs (fun i => Sp.cov l1 i || Sp.cov l2 i) 10000)) 10000 + (Sp.cnt (Sp.cov (Sp.runs (fun i => Sp.cov l1 i && Sp.cov l2 i) 10000)) 10000) : Nat) : Int) = ((Sp.cnt (Sp.cov l1) 10000 + (Sp.cnt (Sp.cov l2) 10000) : Nat) : Int)
  · refine o_move (v := (.bool false)) (congrArg Value.bool (congrArg Bool.not (decide_eq_true hb1))) ?_
    refine o_on rfl rfl ?_
    refine o_move (v := (.slice xa5 ((Sp.runs (fun i => Sp.cov l1 i && Sp.cov l2 i) 10000)).length ca5)) rfl ?_
    refine o_on rfl rfl ?_
    refine o_call (args := [(.slice xa5 ((Sp.runs (fun i => Sp.cov l1 i && Sp.cov l2 i) 10000)).length ca5)]) rfl Try.call10 (Calls.mono (c_Size _ (Sp.runs (fun i => Sp.cov l1 i && Sp.cov l2 i) 10000) hS11.view (RSl.menc hg7.sub hrd5)) ?_)
    rintro _ w12 ⟨rfl, hg12⟩
    refine ⟨_, rfl, ?_⟩
    have hS12 := hS11.grow hg12
    have hcl5 := Sp.cnt_le (Sp.cov (Sp.runs (fun i => Sp.cov l1 i && Sp.cov l2 i) 10000)) 10000
    refine o_on rfl rfl ?_
    refine o_move (v := (.slice xa6 ((Sp.runs (fun i => Sp.cov l1 i && !Sp.cov l2 i) 10000)).length ca6)) rfl ?_
    refine o_on rfl rfl ?_
    refine o_call (args := [(.slice xa6 ((Sp.runs (fun i => Sp.cov l1 i && !Sp.cov l2 i) 10000)).length ca6)]) rfl Try.call10 (Calls.mono (c_Size _ (Sp.runs (fun i => Sp.cov l1 i && !Sp.cov l2 i) 10000) hS12.view hrd6) ?_)
    rintro _ w13 ⟨rfl, hg13⟩
    refine ⟨_, rfl, ?_⟩
    have hS13 := hS12.grow hg13
    have hcl6 := Sp.cnt_le (Sp.cov (Sp.runs (fun i => Sp.cov l1 i && !Sp.cov l2 i) 10000)) 10000
    refine o_on rfl rfl ?_
    refine o_add (r := ((Sp.cnt (Sp.cov (Sp.runs (fun i => Sp.cov l1 i && Sp.cov l2 i) 10000)) 10000 + (Sp.cnt (Sp.cov (Sp.runs (fun i => Sp.cov l1 i && !Sp.cov l2 i) 10000)) 10000) : Nat) : Int)) rfl rfl (nw (by omega) (by omega) (by omega)) ?_
    refine o_on rfl rfl ?_
    refine o_move (v := (.slice xa1 (l1).length ca1)) rfl ?_
    refine o_on rfl rfl ?_
    refine o_call (args := [(.slice xa1 (l1).length ca1)]) rfl Try.call10 (Calls.mono (c_Size _ l1 hS13.view (RSl.menc (Sub.trans (Sub.trans (Sub.trans (Sub.trans hg3.sub hg4.sub) hg5.sub) hg6.sub) hg7.sub) hrd1)) ?_)
    rintro _ w14 ⟨rfl, hg14⟩
    refine ⟨_, rfl, ?_⟩
    have hS14 := hS13.grow hg14
    have hcl7 := Sp.cnt_le (Sp.cov l1) 10000
    refine o_on rfl rfl ?_
    refine o_neq (r := (!decide (((Sp.cnt (Sp.cov (Sp.runs (fun i => Sp.cov l1 i && Sp.cov l2 i) 10000)) 10000 + (Sp.cnt (Sp.cov (Sp.runs (fun i => Sp.cov l1 i && !Sp.cov l2 i) 10000)) 10000) : Nat) : Int) = ((Sp.cnt (Sp.cov l1) 10000 : Nat) : Int)))) rfl rfl rfl ?_
    refine o_pick_f (v := (.bool (!decide (((Sp.cnt (Sp.cov (Sp.runs (fun i => Sp.cov l1 i && Sp.cov l2 i) 10000)) 10000 + (Sp.cnt (Sp.cov (Sp.runs (fun i => Sp.cov l1 i && !Sp.cov l2 i) 10000)) 10000) : Nat) : Int) = ((Sp.cnt (Sp.cov l1) 10000 : Nat) : Int))))) rfl rfl ?_
    by_cases hb2 : ((Sp.cnt (Sp.cov (Sp.runs (fun i => Sp.cov l1 i && Sp.cov l2 i) 10000)) 10000 + (Sp.cnt (Sp.cov (Sp.runs (fun i => Sp.cov l1 i && !Sp.cov l2 i) 10000)) 10000) : Nat) : Int) = ((Sp.cnt (Sp.cov l1) 10000 : Nat) : Int)
    · refine o_move (v := (.bool false)) (congrArg Value.bool (congrArg Bool.not (decide_eq_true hb2))) ?_
      refine o_on rfl rfl ?_
      refine o_move (v := (.slice xa6 ((Sp.runs (fun i => Sp.cov l1 i && !Sp.cov l2 i) 10000)).length ca6)) rfl ?_
      refine o_on rfl rfl ?_
      refine o_move (v := (.slice xa2 (l2).length ca2)) rfl ?_
      refine o_on rfl rfl ?_
      refine o_call (args := [(.slice xa6 ((Sp.runs (fun i => Sp.cov l1 i && !Sp.cov l2 i) 10000)).length ca6), (.slice xa2 (l2).length ca2)]) rfl Try.call8 (Calls.mono (c_Common _ _ (Sp.runs (fun i => Sp.cov l1 i && !Sp.cov l2 i) 10000) l2 hS14.view hrd6 (RSl.menc (Sub.trans (Sub.trans (Sub.trans hg4.sub hg5.sub) hg6.sub) hg7.sub) hrd2)) ?_)
      rintro _ w15 ⟨v7, σ7, rfl, hg15, hrd7⟩
      refine ⟨_, rfl, ?_⟩
      have hS15 := hS14.grow hg15
      obtain ⟨xa7, ca7, he7⟩ := hrd7.shape
      subst he7
      refine o_on rfl rfl ?_
      refine o_len_slice rfl Try.underlying24 ?_
      refine o_on rfl rfl ?_
      refine o_gtr (r := (decide ((0 : Int) < ((((Sp.runs (fun i => Sp.cov (Sp.runs (fun i => Sp.cov l1 i && !Sp.cov l2 i) 10000) i && Sp.cov l2 i) 10000)).length : Nat) : Int)))) rfl rfl rfl ?_
      refine o_pick_f (v := (.bool (decide ((0 : Int) < ((((Sp.runs (fun i => Sp.cov (Sp.runs (fun i => Sp.cov l1 i && !Sp.cov l2 i) 10000) i && Sp.cov l2 i) 10000)).length : Nat) : Int))))) rfl rfl ?_
      refine wpList_nil ?_
      refine then_n ?_
      refine if_d ((0 : Int) < ((((Sp.runs (fun i => Sp.cov (Sp.runs (fun i => Sp.cov l1 i && !Sp.cov l2 i) 10000) i && Sp.cov l2 i) 10000)).length : Nat) : Int)) rfl (fun ht1 => ?_) (fun ht1 => ?_)
      · exfalso; omega
      · refine wp_skip ?_
        refine then_n ?_
        refine seq_reg ?_
        refine o_move (v := (.slice xa6 ((Sp.runs (fun i => Sp.cov l1 i && !Sp.cov l2 i) 10000)).length ca6)) rfl ?_
        refine o_move (v := (.slice xa5 ((Sp.runs (fun i => Sp.cov l1 i && Sp.cov l2 i) 10000)).length ca5)) rfl ?_
        refine o_call (args := [(.slice xa6 ((Sp.runs (fun i => Sp.cov l1 i && !Sp.cov l2 i) 10000)).length ca6), (.slice xa5 ((Sp.runs (fun i => Sp.cov l1 i && Sp.cov l2 i) 10000)).length ca5)]) rfl Try.call7 (Calls.mono (c_Union _ _ (Sp.runs (fun i => Sp.cov l1 i && !Sp.cov l2 i) 10000) (Sp.runs (fun i => Sp.cov l1 i && Sp.cov l2 i) 10000) hS15.view (RSl.menc hg15.sub hrd6) (RSl.menc (Sub.trans hg7.sub hg15.sub) hrd5)) ?_)
        rintro _ w16 ⟨v8, σ8, rfl, hg16, hrd8⟩
        refine ⟨_, rfl, ?_⟩
        have hS16 := hS15.grow hg16
        obtain ⟨xa8, ca8, he8⟩ := hrd8.shape
        subst he8
        refine o_move (v := (.slice xa1 (l1).length ca1)) rfl ?_
        refine o_call (args := [(.slice xa1 (l1).length ca1)]) rfl Try.call12 (Calls.mono (c_Normal _ l1 hS16.view (RSl.menc (Sub.trans (Sub.trans (Sub.trans (Sub.trans (Sub.trans (Sub.trans hg3.sub hg4.sub) hg5.sub) hg6.sub) hg7.sub) hg15.sub) hg16.sub) hrd1)) ?_)
        rintro _ w17 ⟨v9, σ9, rfl, hg17, hrd9⟩
        refine ⟨_, rfl, ?_⟩
        have hS17 := hS16.grow hg17
        obtain ⟨xa9, ca9, he9⟩ := hrd9.shape
        subst he9
        have hE1 : (Sp.runs (Sp.cov l1) 10000) = (Sp.runs (fun i => Sp.cov (Sp.runs (fun i => Sp.cov l1 i && !Sp.cov l2 i) 10000) i || Sp.cov (Sp.runs (fun i => Sp.cov l1 i && Sp.cov l2 i) 10000) i) 10000) := Sp.runs_congr (fun i hi => by simp only [Sp.cov_norm hi]; cases Sp.cov l1 i <;> cases Sp.cov l2 i <;> cases Sp.cov l3 i <;> rfl)
        refine o_call (args := [(.slice xa8 ((Sp.runs (fun i => Sp.cov (Sp.runs (fun i => Sp.cov l1 i && !Sp.cov l2 i) 10000) i || Sp.cov (Sp.runs (fun i => Sp.cov l1 i && Sp.cov l2 i) 10000) i) 10000)).length ca8), (.slice xa9 ((Sp.runs (Sp.cov l1) 10000)).length ca9)]) rfl Try.call11 (Calls.mono (r_SameSpans _ _ (Sp.runs (fun i => Sp.cov (Sp.runs (fun i => Sp.cov l1 i && !Sp.cov l2 i) 10000) i || Sp.cov (Sp.runs (fun i => Sp.cov l1 i && Sp.cov l2 i) 10000) i) 10000) hS17.view (RSl.menc hg17.sub hrd8) (hE1 ▸ hrd9)) ?_)
        rintro _ w18 ⟨rfl, hg18⟩
        refine ⟨_, rfl, ?_⟩
        have hS18 := hS17.grow hg18
        refine o_move (v := (.bool true)) rfl ?_
        refine o_on rfl rfl ?_
        refine o_move (v := (.slice xa4 ((Sp.runs (fun i => Sp.cov l1 i || Sp.cov l2 i) 10000)).length ca4)) rfl ?_
        refine o_on rfl rfl ?_
        refine o_move (v := (.slice xa3 (l3).length ca3)) rfl ?_
        refine o_on rfl rfl ?_
        refine o_call (args := [(.slice xa4 ((Sp.runs (fun i => Sp.cov l1 i || Sp.cov l2 i) 10000)).length ca4), (.slice xa3 (l3).length ca3)]) rfl Try.call7 (Calls.mono (c_Union _ _ (Sp.runs (fun i => Sp.cov l1 i || Sp.cov l2 i) 10000) l3 hS18.view (RSl.menc (Sub.trans (Sub.trans (Sub.trans (Sub.trans hg6.sub hg7.sub) hg15.sub) hg16.sub) hg17.sub) hrd4) (RSl.menc (Sub.trans (Sub.trans (Sub.trans (Sub.trans (Sub.trans hg5.sub hg6.sub) hg7.sub) hg15.sub) hg16.sub) hg17.sub) hrd3)) ?_)
        rintro _ w19 ⟨v10, σ10, rfl, hg19, hrd10⟩
        refine ⟨_, rfl, ?_⟩
        have hS19 := hS18.grow hg19
        obtain ⟨xa10, ca10, he10⟩ := hrd10.shape
        subst he10
        refine o_on rfl rfl ?_
        refine o_move (v := (.slice xa1 (l1).length ca1)) rfl ?_
        refine o_on rfl rfl ?_
        refine o_move (v := (.slice xa2 (l2).length ca2)) rfl ?_
        refine o_on rfl rfl ?_
        refine o_move (v := (.slice xa3 (l3).length ca3)) rfl ?_
        refine o_on rfl rfl ?_
        refine o_call (args := [(.slice xa2 (l2).length ca2), (.slice xa3 (l3).length ca3)]) rfl Try.call7 (Calls.mono (c_Union _ _ l2 l3 hS19.view (RSl.menc (Sub.trans (Sub.trans (Sub.trans (Sub.trans (Sub.trans (Sub.trans (Sub.trans hg4.sub hg5.sub) hg6.sub) hg7.sub) hg15.sub) hg16.sub) hg17.sub) hg19.sub) hrd2) (RSl.menc (Sub.trans (Sub.trans (Sub.trans (Sub.trans (Sub.trans (Sub.trans hg5.sub hg6.sub) hg7.sub) hg15.sub) hg16.sub) hg17.sub) hg19.sub) hrd3)) ?_)
        rintro _ w20 ⟨v11, σ11, rfl, hg20, hrd11⟩
        refine ⟨_, rfl, ?_⟩
        have hS20 := hS19.grow hg20
        obtain ⟨xa11, ca11, he11⟩ := hrd11.shape
        subst he11
        refine o_on rfl rfl ?_
        refine o_call (args := [(.slice xa1 (l1).length ca1), (.slice xa11 ((Sp.runs (fun i => Sp.cov l2 i || Sp.cov l3 i) 10000)).length ca11)]) rfl Try.call7 (Calls.mono (c_Union _ _ l1 (Sp.runs (fun i => Sp.cov l2 i || Sp.cov l3 i) 10000) hS20.view (RSl.menc (Sub.trans (Sub.trans (Sub.trans (Sub.trans (Sub.trans (Sub.trans (Sub.trans (Sub.trans (Sub.trans hg3.sub hg4.sub) hg5.sub) hg6.sub) hg7.sub) hg15.sub) hg16.sub) hg17.sub) hg19.sub) hg20.sub) hrd1) hrd11) ?_)
        rintro _ w21 ⟨v12, σ12, rfl, hg21, hrd12⟩
        refine ⟨_, rfl, ?_⟩
        have hS21 := hS20.grow hg21
        obtain ⟨xa12, ca12, he12⟩ := hrd12.shape
        subst he12
        refine o_on rfl rfl ?_
        have hE2 : (Sp.runs (fun i => Sp.cov l1 i || Sp.cov (Sp.runs (fun i => Sp.cov l2 i || Sp.cov l3 i) 10000) i) 10000) = (Sp.runs (fun i => Sp.cov (Sp.runs (fun i => Sp.cov l1 i || Sp.cov l2 i) 10000) i || Sp.cov l3 i) 10000) := Sp.runs_congr (fun i hi => by simp only [Sp.cov_norm hi]; cases Sp.cov l1 i <;> cases Sp.cov l2 i <;> cases Sp.cov l3 i <;> rfl)
        refine o_call (args := [(.slice xa10 ((Sp.runs (fun i => Sp.cov (Sp.runs (fun i => Sp.cov l1 i || Sp.cov l2 i) 10000) i || Sp.cov l3 i) 10000)).length ca10), (.slice xa12 ((Sp.runs (fun i => Sp.cov l1 i || Sp.cov (Sp.runs (fun i => Sp.cov l2 i || Sp.cov l3 i) 10000) i) 10000)).length ca12)]) rfl Try.call11 (Calls.mono (r_SameSpans _ _ (Sp.runs (fun i => Sp.cov (Sp.runs (fun i => Sp.cov l1 i || Sp.cov l2 i) 10000) i || Sp.cov l3 i) 10000) hS21.view (RSl.menc (Sub.trans hg20.sub hg21.sub) hrd10) (hE2 ▸ hrd12)) ?_)
        rintro _ w22 ⟨rfl, hg22⟩
        refine ⟨_, rfl, ?_⟩
        have hS22 := hS21.grow hg22
        refine o_pick_t (v := (.bool true)) rfl rfl ?_
        refine o_move (v := (.bool true)) rfl ?_
        refine o_on rfl rfl ?_
        refine o_move (v := (.slice xa1 (l1).length ca1)) rfl ?_
        refine o_on rfl rfl ?_
        refine o_move (v := (.slice xa2 (l2).length ca2)) rfl ?_
        refine o_on rfl rfl ?_
        refine o_move (v := (.slice xa3 (l3).length ca3)) rfl ?_
        refine o_on rfl rfl ?_
        refine o_call (args := [(.slice xa2 (l2).length ca2), (.slice xa3 (l3).length ca3)]) rfl Try.call7 (Calls.mono (c_Union _ _ l2 l3 hS22.view (RSl.menc (Sub.trans (Sub.trans (Sub.trans (Sub.trans (Sub.trans (Sub.trans (Sub.trans (Sub.trans (Sub.trans hg4.sub hg5.sub) hg6.sub) hg7.sub) hg15.sub) hg16.sub) hg17.sub) hg19.sub) hg20.sub) hg21.sub) hrd2) (RSl.menc (Sub.trans (Sub.trans (Sub.trans (Sub.trans (Sub.trans (Sub.trans (Sub.trans (Sub.trans hg5.sub hg6.sub) hg7.sub) hg15.sub) hg16.sub) hg17.sub) hg19.sub) hg20.sub) hg21.sub) hrd3)) ?_)
        rintro _ w23 ⟨v13, σ13, rfl, hg23, hrd13⟩
        refine ⟨_, rfl, ?_⟩
        have hS23 := hS22.grow hg23
        obtain ⟨xa13, ca13, he13⟩ := hrd13.shape
        subst he13
        refine o_on rfl rfl ?_
        refine o_call (args := [(.slice xa1 (l1).length ca1), (.slice xa13 ((Sp.runs (fun i => Sp.cov l2 i || Sp.cov l3 i) 10000)).length ca13)]) rfl Try.call9 (Calls.mono (c_Minus _ _ l1 (Sp.runs (fun i => Sp.cov l2 i || Sp.cov l3 i) 10000) hS23.view (RSl.menc (Sub.trans (Sub.trans (Sub.trans (Sub.trans (Sub.trans (Sub.trans (Sub.trans (Sub.trans (Sub.trans (Sub.trans (Sub.trans hg3.sub hg4.sub) hg5.sub) hg6.sub) hg7.sub) hg15.sub) hg16.sub) hg17.sub) hg19.sub) hg20.sub) hg21.sub) hg23.sub) hrd1) hrd13) ?_)
        rintro _ w24 ⟨v14, σ14, rfl, hg24, hrd14⟩
        refine ⟨_, rfl, ?_⟩
        have hS24 := hS23.grow hg24
        obtain ⟨xa14, ca14, he14⟩ := hrd14.shape
        subst he14
        refine o_on rfl rfl ?_
        refine o_move (v := (.slice xa6 ((Sp.runs (fun i => Sp.cov l1 i && !Sp.cov l2 i) 10000)).length ca6)) rfl ?_
        refine o_on rfl rfl ?_
        refine o_move (v := (.slice xa1 (l1).length ca1)) rfl ?_
        refine o_on rfl rfl ?_
        refine o_move (v := (.slice xa3 (l3).length ca3)) rfl ?_
        refine o_on rfl rfl ?_
        refine o_call (args := [(.slice xa1 (l1).length ca1), (.slice xa3 (l3).length ca3)]) rfl Try.call9 (Calls.mono (c_Minus _ _ l1 l3 hS24.view (RSl.menc (Sub.trans (Sub.trans (Sub.trans (Sub.trans (Sub.trans (Sub.trans (Sub.trans (Sub.trans (Sub.trans (Sub.trans (Sub.trans (Sub.trans hg3.sub hg4.sub) hg5.sub) hg6.sub) hg7.sub) hg15.sub) hg16.sub) hg17.sub) hg19.sub) hg20.sub) hg21.sub) hg23.sub) hg24.sub) hrd1) (RSl.menc (Sub.trans (Sub.trans (Sub.trans (Sub.trans (Sub.trans (Sub.trans (Sub.trans (Sub.trans (Sub.trans (Sub.trans hg5.sub hg6.sub) hg7.sub) hg15.sub) hg16.sub) hg17.sub) hg19.sub) hg20.sub) hg21.sub) hg23.sub) hg24.sub) hrd3)) ?_)
        rintro _ w25 ⟨v15, σ15, rfl, hg25, hrd15⟩
        refine ⟨_, rfl, ?_⟩
        have hS25 := hS24.grow hg25
        obtain ⟨xa15, ca15, he15⟩ := hrd15.shape
        subst he15
        refine o_on rfl rfl ?_
        refine o_call (args := [(.slice xa6 ((Sp.runs (fun i => Sp.cov l1 i && !Sp.cov l2 i) 10000)).length ca6), (.slice xa15 ((Sp.runs (fun i => Sp.cov l1 i && !Sp.cov l3 i) 10000)).length ca15)]) rfl Try.call8 (Calls.mono (c_Common _ _ (Sp.runs (fun i => Sp.cov l1 i && !Sp.cov l2 i) 10000) (Sp.runs (fun i => Sp.cov l1 i && !Sp.cov l3 i) 10000) hS25.view (RSl.menc (Sub.trans (Sub.trans (Sub.trans (Sub.trans (Sub.trans (Sub.trans (Sub.trans (Sub.trans hg15.sub hg16.sub) hg17.sub) hg19.sub) hg20.sub) hg21.sub) hg23.sub) hg24.sub) hg25.sub) hrd6) hrd15) ?_)
        rintro _ w26 ⟨v16, σ16, rfl, hg26, hrd16⟩
        refine ⟨_, rfl, ?_⟩
        have hS26 := hS25.grow hg26
        obtain ⟨xa16, ca16, he16⟩ := hrd16.shape
        subst he16
        refine o_on rfl rfl ?_
        have hE3 : (Sp.runs (fun i => Sp.cov (Sp.runs (fun i => Sp.cov l1 i && !Sp.cov l2 i) 10000) i && Sp.cov (Sp.runs (fun i => Sp.cov l1 i && !Sp.cov l3 i) 10000) i) 10000) = (Sp.runs (fun i => Sp.cov l1 i && !Sp.cov (Sp.runs (fun i => Sp.cov l2 i || Sp.cov l3 i) 10000) i) 10000) := Sp.runs_congr (fun i hi => by simp only [Sp.cov_norm hi]; cases Sp.cov l1 i <;> cases Sp.cov l2 i <;> cases Sp.cov l3 i <;> rfl)
        refine o_call (args := [(.slice xa14 ((Sp.runs (fun i => Sp.cov l1 i && !Sp.cov (Sp.runs (fun i => Sp.cov l2 i || Sp.cov l3 i) 10000) i) 10000)).length ca14), (.slice xa16 ((Sp.runs (fun i => Sp.cov (Sp.runs (fun i => Sp.cov l1 i && !Sp.cov l2 i) 10000) i && Sp.cov (Sp.runs (fun i => Sp.cov l1 i && !Sp.cov l3 i) 10000) i) 10000)).length ca16)]) rfl Try.call11 (Calls.mono (r_SameSpans _ _ (Sp.runs (fun i => Sp.cov l1 i && !Sp.cov (Sp.runs (fun i => Sp.cov l2 i || Sp.cov l3 i) 10000) i) 10000) hS26.view (RSl.menc (Sub.trans hg25.sub hg26.sub) hrd14) (hE3 ▸ hrd16)) ?_)
        rintro _ w27 ⟨rfl, hg27⟩
        refine ⟨_, rfl, ?_⟩
        have hS27 := hS26.grow hg27
        refine o_pick_t (v := (.bool true)) rfl rfl ?_
        refine o_assign (v := (.bool true)) rfl ?_
        refine wpList_nil ?_
        refine then_n ?_
        refine wp_ret ?_
        refine ret1 rfl (show ev _ _ _ = (.bool true) from rfl) ?_
        exact ⟨rfl, hS27.done.forget⟩
    · exact absurd (by omega) hb2
  · exact absurd (by omega) hb1


end Go.Proofs.Ytddgjdaobcbcaaa
