/- What the functions of a store of diagrams do, for the document's store and for the program's. Conditions: those in the statements. -/
import Derived.Test.YtkfcnibjlmiboaaDgLaw
import Derived.Test.YtkfcnibjlmiboaaPu
namespace Go.Dg5
open Go.Fl Go.Fx Go.Dg

theorem nd_get {ns : List Nd} {id : Int} {y : Nd} (h : ns[id.toNat]? = some y) : nd ns id = y := by
  simp [nd, List.getD_eq_getElem?_getD, h]

theorem ris_ok {ns : List Nd} {ids : Nd → Option Int} {full : Bool} {id : Int} {K : Bool → List Nd → (Nd → Option Int) → Bool → Prop} (h : K (decide (Ok ns id)) ns ids full) : P_ris ns ids full id K := by
  unfold P_ris
  refine ⟨fun h1 _ => ?_, fun h1 => ?_⟩
  · have : decide (id < (ns.length : Int)) = decide (Ok ns id) := decide_eq_decide.2 ⟨fun a => ⟨h1, a⟩, fun a => a.2⟩
    rw [this]; exact h
  · have : decide (Ok ns id) = false := decide_eq_false fun a => h1 a.1
    rw [this] at h; exact h
theorem rtop_ok {ns : List Nd} {ids : Nd → Option Int} {full : Bool} {id : Int} {K : Int → List Nd → (Nd → Option Int) → Bool → Prop} (hi : Ok ns id) (h : K (top ns id) ns ids full) : P_rtop ns ids full id K := by
  unfold P_rtop
  refine ⟨fun hn => ?_, fun hn => ⟨⟨by omega, hi.2⟩, fun y hy => ?_⟩⟩
  · simp only [top, if_pos hn] at h; exact h
  · simp only [top, if_neg hn, nd_get hy] at h; exact h
theorem rsides_ok {ns : List Nd} {ids : Nd → Option Int} {full : Bool} {id t : Int} {K : Int → Int → List Nd → (Nd → Option Int) → Bool → Prop} (hi : Ok ns id) (ht : t ≤ 1000) (h : K (sd ns id t).1 (sd ns id t).2 ns ids full) : P_rsides ns ids full id t K := by
  unfold P_rsides
  refine rtop_ok hi ⟨fun he => ?_, fun he => ?_⟩
  · have h0 : ¬ id < 0 := fun hn => by simp only [top, if_pos hn] at he; omega
    refine ⟨⟨by omega, hi.2⟩, fun y hy => ⟨⟨by omega, hi.2⟩, fun z hz => ?_⟩⟩
    rw [hy] at hz
    cases hz
    simp only [sd, if_pos he, nd_get hy] at h
    exact h
  · simp only [sd, if_neg he] at h; exact h
theorem rNode_ok {ns : List Nd} {ids : Nd → Option Int} {full : Bool} {t y n : Int} {K : Int → List Nd → (Nd → Option Int) → Bool → Prop} (hl : ns.length ≤ 4000)
    (h : K (node ns ids full t y n).1 (node ns ids full t y n).2.1 (node ns ids full t y n).2.2.1 (node ns ids full t y n).2.2.2) : P_rNode ns ids full t y n K := by
  unfold P_rNode
  by_cases hO : NodeOk ns t y n
  · obtain ⟨h1, h2, h3, h4, h5, h6⟩ := hO
    refine Cnd.no (by omega) (Cnd.no (by omega) (ris_ok (Cnd.yes (decide_eq_true h3) (ris_ok (Cnd.yes (decide_eq_true h4) (rtop_ok h3 (Cnd.no (by omega) (rtop_ok h4 (Cnd.no (by omega) ?_)))))))))
    rw [node, if_pos ⟨h1, h2, h3, h4, h5, h6⟩] at h
    refine ⟨fun he => ?_, fun he => ?_⟩
    · rw [if_pos he] at h; exact h
    rw [if_neg he] at h
    cases hid : ids (t, y, n) with
    | some id => rw [hid] at h; exact Cnd.yes rfl h
    | none =>
      rw [hid] at h
      refine Cnd.no (by simp) fun _ => ⟨fun hf => ?_, fun hf => ?_⟩
      · rw [if_pos (by omega)] at h; exact h
      rw [if_neg (by omega)] at h
      have hlen : ((ns ++ [(t, y, n)]).length : Int) = ns.length + 1 := by simp
      have e1 : ((ns ++ [(t, y, n)]).length : Int) - 1 = ns.length := by omega
      have hs : Sml (ns ++ [(t, y, n)]).length := by unfold Sml; simp; omega
      have hi : InI (((ns ++ [(t, y, n)]).length : Int) - 1) := by constructor <;> omega
      exact fun _ => ⟨hs, fun _ => ⟨hi, by rw [e1]; exact h⟩⟩
  · rw [node_bad hO] at h
    refine ⟨fun _ => h, fun h1 => ⟨fun _ => h, fun h2 => ris_ok ⟨fun h3 => ris_ok ⟨fun h4 => rtop_ok (of_decide_eq_true h3) ⟨fun _ => h, fun h5 => rtop_ok (of_decide_eq_true h4) ⟨fun _ => h, fun h6 => ?_⟩⟩, fun _ => h⟩, fun _ => h⟩⟩⟩
    exact absurd ⟨by omega, by omega, of_decide_eq_true h3, of_decide_eq_true h4, by omega, by omega⟩ hO

theorem pvalid_ok {ns : List Nd} {ids : Nd → Option Int} {full : Bool} {id : Int} {K : Bool → List Nd → (Nd → Option Int) → Bool → Prop} (h : K (decide (Ok ns id)) ns ids full) : P_pvalid ns ids full id K := by
  unfold P_pvalid
  refine ⟨fun h1 _ => ?_, fun h1 => ?_⟩
  · have : decide (id < (ns.length : Int)) = decide (Ok ns id) := decide_eq_decide.2 ⟨fun a => ⟨h1, a⟩, fun a => a.2⟩
    rw [this]; exact h
  · have : decide (Ok ns id) = false := decide_eq_false fun a => h1 a.1
    rw [this] at h; exact h
theorem ptest_ok {ns : List Nd} {ids : Nd → Option Int} {full : Bool} {id : Int} {K : Int → List Nd → (Nd → Option Int) → Bool → Prop} (hi : Ok ns id) (h : K (top ns id) ns ids full) : P_ptest ns ids full id K := by
  unfold P_ptest
  refine ⟨fun hn => ?_, fun hn => ⟨⟨by omega, hi.2⟩, fun y hy => ?_⟩⟩
  · simp only [top, if_pos hn] at h; exact h
  · simp only [top, if_neg hn, nd_get hy] at h; exact h
theorem pcof_ok {ns : List Nd} {ids : Nd → Option Int} {full : Bool} {id t : Int} {K : Int → Int → List Nd → (Nd → Option Int) → Bool → Prop} (hi : Ok ns id) (ht : t ≤ 1000) (h : K (sd ns id t).1 (sd ns id t).2 ns ids full) : P_pcof ns ids full id t K := by
  unfold P_pcof
  refine ptest_ok hi ⟨fun he => ?_, fun he => ?_⟩
  · have h0 : ¬ id < 0 := fun hn => by simp only [top, if_pos hn] at he; omega
    refine ⟨⟨by omega, hi.2⟩, fun y hy => ⟨⟨by omega, hi.2⟩, fun z hz => ?_⟩⟩
    rw [hy] at hz
    cases hz
    simp only [sd, if_pos he, nd_get hy] at h
    exact h
  · simp only [sd, if_neg he] at h; exact h
theorem pNode_ok {ns : List Nd} {ids : Nd → Option Int} {full : Bool} {t y n : Int} {K : Int → List Nd → (Nd → Option Int) → Bool → Prop} (hl : ns.length ≤ 4000)
    (h : K (node ns ids full t y n).1 (node ns ids full t y n).2.1 (node ns ids full t y n).2.2.1 (node ns ids full t y n).2.2.2) : P_pNode ns ids full t y n K := by
  unfold P_pNode
  by_cases hO : NodeOk ns t y n
  · obtain ⟨h1, h2, h3, h4, h5, h6⟩ := hO
    refine Cnd.no (by omega) (Cnd.no (by omega) (pvalid_ok (Cnd.yes (decide_eq_true h3) (pvalid_ok (Cnd.yes (decide_eq_true h4) (ptest_ok h3 (Cnd.no (by omega) (ptest_ok h4 (Cnd.no (by omega) ?_)))))))))
    rw [node, if_pos ⟨h1, h2, h3, h4, h5, h6⟩] at h
    refine ⟨fun he => ?_, fun he => ?_⟩
    · rw [if_pos he] at h; exact h
    rw [if_neg he] at h
    cases hid : ids (t, y, n) with
    | some id => rw [hid] at h; exact Cnd.yes rfl h
    | none =>
      rw [hid] at h
      refine Cnd.no (by simp) fun _ => ⟨fun hf => ?_, fun hf => ?_⟩
      · rw [if_pos (by omega)] at h; exact h
      rw [if_neg (by omega)] at h
      have hlen : ((ns ++ [(t, y, n)]).length : Int) = ns.length + 1 := by simp
      have e1 : ((ns ++ [(t, y, n)]).length : Int) - 1 = ns.length := by omega
      have hs : Sml (ns ++ [(t, y, n)]).length := by unfold Sml; simp; omega
      have hi : InI (((ns ++ [(t, y, n)]).length : Int) - 1) := by constructor <;> omega
      exact ⟨hs, fun _ => ⟨hi, fun _ => ⟨hi, by rw [e1]; exact h⟩⟩⟩
  · rw [node_bad hO] at h
    refine ⟨fun _ => h, fun h1 => ⟨fun _ => h, fun h2 => pvalid_ok ⟨fun h3 => pvalid_ok ⟨fun h4 => ptest_ok (of_decide_eq_true h3) ⟨fun _ => h, fun h5 => ptest_ok (of_decide_eq_true h4) ⟨fun _ => h, fun h6 => ?_⟩⟩, fun _ => h⟩, fun _ => h⟩⟩⟩
    exact absurd ⟨by omega, by omega, of_decide_eq_true h3, of_decide_eq_true h4, by omega, by omega⟩ hO
theorem rleafCase {X : List Nd → (Nd → Option Int) → Bool → Int → Int → Int → (Nd → Option Int) → (Int → List Nd → (Nd → Option Int) → Bool → (Nd → Option Int) → Prop) → Prop} {ns : List Nd} {ids : Nd → Option Int} {full : Bool} {f g h : Int} {m : Nd → Option Int} {K : Int → List Nd → (Nd → Option Int) → Bool → (Nd → Option Int) → Prop} (hI : Inv ns ids) (hl : ns.length ≤ 4000) (_ : Ok ns f) (hg : Ok ns g) (hh : Ok ns h) (hc : Cond ns f) (hm : Kn ns m) (hn : f < 0)
    (hK : ∀ r ns' ids' full' m', Cho ns ids full f g h r ns' ids' full' → Kn ns' m' → K r ns' ids' full' m') : S_rchoose X ns ids full f g h m K := by
  have hc0 := hc fun _ => true
  rw [ev_leaf hn] at hc0
  have mk : ∀ r, ((f = -2 ∧ r = g) ∨ (f = -1 ∧ r = h)) → Cho ns ids full f g h r ns ids full := by
    rintro r hr
    refine ⟨.refl hI hl _, fun b hb => ⟨hb, by have := Nat.two_pow_pos ((b - mtop ns f g h).toNat); omega⟩, .inr ?_⟩
    rcases hr with ⟨h1, rfl⟩ | ⟨h1, rfl⟩
    · exact ⟨hg, fun v => by rw [ev_leaf (id := f) hn, if_pos (by omega)], by unfold mtop; omega⟩
    · exact ⟨hh, fun v => by rw [ev_leaf (id := f) hn, if_neg (by omega)], by unfold mtop; omega⟩
  unfold S_rchoose
  refine ⟨fun he => hK _ _ _ _ _ (mk g (.inl ⟨he, rfl⟩)) hm, fun he => ⟨fun hgh => ?_, fun hgh => ⟨fun he' => hK _ _ _ _ _ (mk h (.inr ⟨he', rfl⟩)) hm, fun he' => absurd hc0 (by omega)⟩⟩⟩
  exact hK _ _ _ _ _ (mk g (.inr ⟨by omega, hgh⟩)) hm

theorem rchoose_ok : ∀ (ns : List Nd) (ids : Nd → Option Int) (full : Bool) (f g h : Int) (m : Nd → Option Int) (K : Int → List Nd → (Nd → Option Int) → Bool → (Nd → Option Int) → Prop), Inv ns ids → ns.length ≤ 4000 → Ok ns f → Ok ns g → Ok ns h → Cond ns f → Kn ns m →
    (∀ r ns' ids' full' m', Cho ns ids full f g h r ns' ids' full' → Kn ns' m' → K r ns' ids' full' m') → P_rchoose ns ids full f g h m K := by
  intro ns ids full f g h m K hI hl hf hg hh hc hm hK X hX
  have key : ∀ (k : Nat) (ns : List Nd) (ids : Nd → Option Int) (full : Bool) (f g h : Int) (m : Nd → Option Int) (K : Int → List Nd → (Nd → Option Int) → Bool → (Nd → Option Int) → Prop), (1001 - mtop ns f g h).toNat ≤ k → Inv ns ids → ns.length ≤ 4000 → Ok ns f → Ok ns g → Ok ns h → Cond ns f → Kn ns m →
      (∀ r ns' ids' full' m', Cho ns ids full f g h r ns' ids' full' → Kn ns' m' → K r ns' ids' full' m') → X ns ids full f g h m K := by
    intro k
    induction k with
    | zero =>
      intro ns ids full f g h m K hk hI hl hf hg hh hc hm hK
      refine hX _ _ _ _ _ _ _ _ ?_
      have ht := (top_le hI.nod hf.2)
      have hn : f < 0 := by
        refine Int.not_le.1 fun h0 => ?_
        have := ht.2.2 h0
        unfold mtop at hk; omega
      exact rleafCase hI hl hf hg hh hc hm hn hK
    | succ k ih =>
      intro ns ids full f g h m K hk hI hl hf hg hh hc hm hK
      refine hX _ _ _ _ _ _ _ _ ?_
      by_cases hn : f < 0
      · exact rleafCase hI hl hf hg hh hc hm hn hK
      have same : ∀ r, (g = h ∧ r = g) → Cho ns ids full f g h r ns ids full := by
        rintro r ⟨rfl, rfl⟩
        exact ⟨.refl hI hl _, fun b hb => ⟨hb, by have := Nat.two_pow_pos ((b - mtop ns f r r).toNat); omega⟩, .inr ⟨hg, fun v => by simp, by unfold mtop; omega⟩⟩
      unfold S_rchoose
      refine Cnd.no (by omega) ⟨fun hgh => hK _ _ _ _ _ (same g ⟨hgh, rfl⟩) hm, fun hgh => Cnd.no (by omega) ⟨fun hs => ?_, fun _ => ?_⟩⟩
      · obtain ⟨id, hid⟩ := Option.isSome_iff_exists.1 hs
        rw [hid]
        refine hK _ _ _ _ _ ⟨.refl hI hl _, fun b hb => ⟨hb, by have := Nat.two_pow_pos ((b - mtop ns f g h).toNat); omega⟩, ?_⟩ hm
        rcases hm f g h id hid with h1 | ⟨_, _, _, h4, h5, h6⟩
        · exact .inl h1
        · exact .inr ⟨h4, h5, h6⟩
      have t0 := top_le hI.nod hf.2
      have t1 := top_le hI.nod hg.2
      have t2 := top_le hI.nod hh.2
      have hft := t0.2.2 (by omega)
      have ht : mtop ns f g h ≤ 1000 := by unfold mtop; omega
      have ht0 : 0 ≤ mtop ns f g h := by unfold mtop; omega
      refine rtop_ok hf (rtop_ok hg (rtop_ok hh ?_))
      rw [show min (min (top ns f) (top ns g)) (top ns h) = mtop ns f g h from rfl]
      refine rsides_ok hf ht (rsides_ok hg ht (rsides_ok hh ht ?_))
      obtain ⟨fa, fb, fc, fd, fe⟩ := sd_ok hI.nod hf ht (by unfold mtop; omega)
      obtain ⟨ga, gb, gc, gd, ge⟩ := sd_ok hI.nod hg ht (by unfold mtop; omega)
      obtain ⟨ha, hb, hc', hd, he⟩ := sd_ok hI.nod hh ht (by unfold mtop; omega)
      have cy : Cond ns (sd ns f (mtop ns f g h)).1 := fun v => by
        have := hc (setB v (mtop ns f g h) true)
        rw [fe] at this
        simp only [setB, if_true] at this
        rw [ev_set hI.nod fa fc] at this
        exact this
      have cn : Cond ns (sd ns f (mtop ns f g h)).2 := fun v => by
        have := hc (setB v (mtop ns f g h) false)
        rw [fe] at this
        simp only [setB, if_true, Bool.false_eq_true, if_false] at this
        rw [ev_set hI.nod fb fd] at this
        exact this
      have hty : mtop ns f g h < mtop ns (sd ns f (mtop ns f g h)).1 (sd ns g (mtop ns f g h)).1 (sd ns h (mtop ns f g h)).1 := by
        show _ < min (min _ _) _; omega
      have htn : mtop ns f g h < mtop ns (sd ns f (mtop ns f g h)).2 (sd ns g (mtop ns f g h)).2 (sd ns h (mtop ns f g h)).2 := by
        show _ < min (min _ _) _; omega
      refine ih _ _ _ _ _ _ _ _ (by omega) hI hl fa ga ha cy hm fun r1 ns1 ids1 full1 m1 C1 hm1 => ?_
      have hp1 := C1.grew.pre
      have hN1 := C1.grew.inv.nod
      have htn1 : mtop ns1 (sd ns f (mtop ns f g h)).2 (sd ns g (mtop ns f g h)).2 (sd ns h (mtop ns f g h)).2 = mtop ns (sd ns f (mtop ns f g h)).2 (sd ns g (mtop ns f g h)).2 (sd ns h (mtop ns f g h)).2 := mt_pre hp1 fb gb hb
      refine ih _ _ _ _ _ _ _ _ (by rw [htn1]; omega) C1.grew.inv C1.grew.len (fb.pre hp1) (gb.pre hp1) (hb.pre hp1) (fun v => by rw [ev_pre hI.nod hN1 hp1 fb]; exact cn v) hm1 fun r2 ns2 ids2 full2 m2 C2 hm2 => ?_
      have hp2 := C2.grew.pre
      have hN2 := C2.grew.inv.nod
      have hp := hp1.trans hp2
      have few2 : ∀ b, Tb ns b → Tb ns2 b ∧ ns2.length + 2 ≤ ns.length + 2 ^ (b - mtop ns f g h).toNat := fun b hb0 => by
        obtain ⟨a1, a2⟩ := C1.few b hb0
        obtain ⟨a3, a4⟩ := C2.few b a1
        rw [htn1] at a4
        have hlt : mtop ns f g h < b := by
          have hq := hb0 f (by omega) hf.2
          have : top ns f = (nd ns f).1 := by simp only [top, if_neg hn]
          unfold mtop; omega
        refine ⟨a3, ?_⟩
        have e : 2 ^ (b - mtop ns f g h).toNat = 2 * 2 ^ (b - mtop ns f g h - 1).toNat := by
          rw [show (b - mtop ns f g h).toNat = (b - mtop ns f g h - 1).toNat + 1 by omega, Nat.pow_succ]; omega
        have p1 := Nat.pow_le_pow_right (show 0 < 2 by omega) (show (b - mtop ns (sd ns f (mtop ns f g h)).1 (sd ns g (mtop ns f g h)).1 (sd ns h (mtop ns f g h)).1).toNat ≤ (b - mtop ns f g h - 1).toNat by omega)
        have p2 := Nat.pow_le_pow_right (show 0 < 2 by omega) (show (b - mtop ns (sd ns f (mtop ns f g h)).2 (sd ns g (mtop ns f g h)).2 (sd ns h (mtop ns f g h)).2).toNat ≤ (b - mtop ns f g h - 1).toNat by omega)
        omega
      have gr2 : Grew ns ids full 4000 ns2 ids2 full2 := by
        have := C1.grew.trans C2.grew (Nat.le_refl _)
        exact ⟨this.inv, this.pre, this.len, this.room, by have := this.len; omega⟩
      have bad : ns2.length = 4000 → Cho ns ids full f g h (-1002) ns2 ids2 full2 := fun hb0 => ⟨gr2, fun b hb1 => ⟨(few2 b hb1).1, by have := (few2 b hb1).2; omega⟩, .inl ⟨rfl, hb0⟩⟩
      have full1 : r1 = -1002 → ns2.length = 4000 := fun e => by
        rcases C1.res with h1 | h1
        · have := hp2.length_le
          have := C2.grew.len
          omega
        · have := h1.1.1; omega
      have full2' : r2 = -1002 → ns2.length = 4000 := fun e => by
        rcases C2.res with h1 | h1
        · exact h1.2
        · have := h1.1.1; omega
      have hbad : ns2.length = 4000 → Kn ns2 (Fl.put m2 (f, g, h) (-1002)) := fun hb0 => hm2.put (.inl ⟨rfl, hb0⟩)
      refine ⟨fun e1 => hK _ _ _ _ _ (bad (full1 e1)) (hbad (full1 e1)), fun e1 => ⟨fun e2 => hK _ _ _ _ _ (bad (full2' e2)) (hbad (full2' e2)), fun e2 => ?_⟩⟩
      have o1 : Ok ns1 r1 ∧ Cse ns1 (sd ns f (mtop ns f g h)).1 (sd ns g (mtop ns f g h)).1 (sd ns h (mtop ns f g h)).1 r1 ∧ mtop ns (sd ns f (mtop ns f g h)).1 (sd ns g (mtop ns f g h)).1 (sd ns h (mtop ns f g h)).1 ≤ top ns1 r1 := by
        rcases C1.res with h1 | h1
        · exact absurd h1.1 e1
        · exact h1
      have o2 : Ok ns2 r2 ∧ Cse ns2 (sd ns f (mtop ns f g h)).2 (sd ns g (mtop ns f g h)).2 (sd ns h (mtop ns f g h)).2 r2 ∧ mtop ns1 (sd ns f (mtop ns f g h)).2 (sd ns g (mtop ns f g h)).2 (sd ns h (mtop ns f g h)).2 ≤ top ns2 r2 := by
        rcases C2.res with h1 | h1
        · exact absurd h1.1 e2
        · exact h1
      have o1t : top ns2 r1 = top ns1 r1 := top_pre hp2 o1.1.2
      have hO : NodeOk ns2 (mtop ns f g h) r1 r2 := ⟨ht0, ht, o1.1.pre hp2, o2.1, by rw [o1t]; have := o1.2.2; omega, by have := o2.2.2; rw [htn1] at this; omega⟩
      refine rNode_ok C2.grew.len ?_
      obtain ⟨hg3, htb, hres⟩ := node_ok C2.grew.inv C2.grew.len hO (r := (node ns2 ids2 full2 (mtop ns f g h) r1 r2).1) (ns' := (node ns2 ids2 full2 (mtop ns f g h) r1 r2).2.1) (ids' := (node ns2 ids2 full2 (mtop ns f g h) r1 r2).2.2.1) (full' := (node ns2 ids2 full2 (mtop ns f g h) r1 r2).2.2.2) rfl
      generalize (node ns2 ids2 full2 (mtop ns f g h) r1 r2).1 = r3 at hg3 htb hres
      generalize (node ns2 ids2 full2 (mtop ns f g h) r1 r2).2.1 = ns3 at hg3 htb hres
      generalize (node ns2 ids2 full2 (mtop ns f g h) r1 r2).2.2.1 = ids3 at hg3 htb hres
      generalize (node ns2 ids2 full2 (mtop ns f g h) r1 r2).2.2.2 = full3 at hg3 htb hres
      have hp3 := hp.trans hg3.pre
      have hN3 := hg3.inv.nod
      have hr3 : (r3 = -1002 ∧ ns3.length = 4000) ∨ (Ok ns3 r3 ∧ Cse ns3 f g h r3 ∧ mtop ns f g h ≤ top ns3 r3) := by
        rcases hres with h1 | ⟨_, h1, h2, h3⟩
        · exact .inl ⟨h1.1, h1.2.1⟩
        · refine .inr ⟨h1, fun v => ?_, h2⟩
          rw [h3, ev_pre hI.nod hN3 hp3 hf, ev_pre hI.nod hN3 hp3 hg, ev_pre hI.nod hN3 hp3 hh, fe, ge, he]
          cases v (mtop ns f g h) with
          | true =>
            simp only [if_true]
            rw [ev_pre hN1 hN2 hp2 o1.1, o1.2.1, ev_pre hI.nod hN1 hp1 fa, ev_pre hI.nod hN1 hp1 ga, ev_pre hI.nod hN1 hp1 ha]
          | false =>
            simp only [Bool.false_eq_true, if_false]
            rw [o2.2.1, ev_pre hI.nod hN2 hp fb, ev_pre hI.nod hN2 hp gb, ev_pre hI.nod hN2 hp hb]
      have hcho : Cho ns ids full f g h r3 ns3 ids3 full3 := by
        refine ⟨?_, fun b hb0 => ⟨?_, ?_⟩, hr3⟩
        · have := gr2.trans hg3 (Nat.le_refl _)
          exact ⟨this.inv, this.pre, this.len, this.room, by have := this.len; omega⟩
        · have hlt : mtop ns f g h < b := by
            have hq := hb0 f (by omega) hf.2
            have : top ns f = (nd ns f).1 := by simp only [top, if_neg hn]
            unfold mtop; omega
          exact htb b (few2 b hb0).1 hlt
        · have := (few2 b hb0).2
          have := hg3.most
          omega
      refine hK _ _ _ _ _ hcho (Kn.put (hm2.pre hN2 hN3 hg3.pre hg3.len) ?_)
      rcases hr3 with h1 | ⟨h1, h2, h3⟩
      · exact .inl h1
      · exact .inr ⟨hf.pre hp3, hg.pre hp3, hh.pre hp3, h1, h2, by rw [mt_pre hp3 hf hg hh]; exact h3⟩
  exact key _ ns ids full f g h m K (Nat.le_refl _) hI hl hf hg hh hc hm hK
theorem pleafCase {X : List Nd → (Nd → Option Int) → Bool → Int → Int → Int → (Nd → Option Int) → (Int → List Nd → (Nd → Option Int) → Bool → (Nd → Option Int) → Prop) → Prop} {ns : List Nd} {ids : Nd → Option Int} {full : Bool} {f g h : Int} {m : Nd → Option Int} {K : Int → List Nd → (Nd → Option Int) → Bool → (Nd → Option Int) → Prop} (hI : Inv ns ids) (hl : ns.length ≤ 4000) (hf : Ok ns f) (hg : Ok ns g) (hh : Ok ns h) (_ : Cond ns f) (hm : Kn ns m) (hn : f < 0)
    (hK : ∀ r ns' ids' full' m', Cho ns ids full f g h r ns' ids' full' → Kn ns' m' → K r ns' ids' full' m') : S_pchoose X ns ids full f g h m K := by
  have mk : ∀ r, ((f = -2 ∧ r = g) ∨ (f ≠ -2 ∧ r = h)) → Cho ns ids full f g h r ns ids full := by
    rintro r hr
    refine ⟨.refl hI hl _, fun b hb => ⟨hb, by have := Nat.two_pow_pos ((b - mtop ns f g h).toNat); omega⟩, .inr ?_⟩
    rcases hr with ⟨h1, rfl⟩ | ⟨h1, rfl⟩
    · exact ⟨hg, fun v => by rw [ev_leaf (id := f) hn, if_pos (by omega)], by unfold mtop; omega⟩
    · exact ⟨hh, fun v => by rw [ev_leaf (id := f) hn, if_neg (by omega)], by unfold mtop; omega⟩
  unfold S_pchoose
  have hf1 := hf.1
  refine ⟨⟨by omega, by omega⟩, Cnd.yes hn (Cnd.yes (decide_eq_true hf1) ⟨fun he => hK _ _ _ _ _ (mk g (.inl ⟨by omega, rfl⟩)) hm, fun he => hK _ _ _ _ _ (mk h (.inr ⟨by omega, rfl⟩)) hm⟩)⟩

theorem pchoose_ok : ∀ (ns : List Nd) (ids : Nd → Option Int) (full : Bool) (f g h : Int) (m : Nd → Option Int) (K : Int → List Nd → (Nd → Option Int) → Bool → (Nd → Option Int) → Prop), Inv ns ids → ns.length ≤ 4000 → Ok ns f → Ok ns g → Ok ns h → Cond ns f → Kn ns m →
    (∀ r ns' ids' full' m', Cho ns ids full f g h r ns' ids' full' → Kn ns' m' → K r ns' ids' full' m') → P_pchoose ns ids full f g h m K := by
  intro ns ids full f g h m K hI hl hf hg hh hc hm hK X hX
  have key : ∀ (k : Nat) (ns : List Nd) (ids : Nd → Option Int) (full : Bool) (f g h : Int) (m : Nd → Option Int) (K : Int → List Nd → (Nd → Option Int) → Bool → (Nd → Option Int) → Prop), (1001 - mtop ns f g h).toNat ≤ k → Inv ns ids → ns.length ≤ 4000 → Ok ns f → Ok ns g → Ok ns h → Cond ns f → Kn ns m →
      (∀ r ns' ids' full' m', Cho ns ids full f g h r ns' ids' full' → Kn ns' m' → K r ns' ids' full' m') → X ns ids full f g h m K := by
    intro k
    induction k with
    | zero =>
      intro ns ids full f g h m K hk hI hl hf hg hh hc hm hK
      refine hX _ _ _ _ _ _ _ _ ?_
      have ht := (top_le hI.nod hf.2)
      have hn : f < 0 := by
        refine Int.not_le.1 fun h0 => ?_
        have := ht.2.2 h0
        unfold mtop at hk; omega
      exact pleafCase hI hl hf hg hh hc hm hn hK
    | succ k ih =>
      intro ns ids full f g h m K hk hI hl hf hg hh hc hm hK
      refine hX _ _ _ _ _ _ _ _ ?_
      by_cases hn : f < 0
      · exact pleafCase hI hl hf hg hh hc hm hn hK
      have same : ∀ r, (g = h ∧ r = g) → Cho ns ids full f g h r ns ids full := by
        rintro r ⟨rfl, rfl⟩
        exact ⟨.refl hI hl _, fun b hb => ⟨hb, by have := Nat.two_pow_pos ((b - mtop ns f r r).toNat); omega⟩, .inr ⟨hg, fun v => by simp, by unfold mtop; omega⟩⟩
      unfold S_pchoose
      refine ⟨by have := hf.2; constructor <;> omega, Cnd.no hn (Cnd.no (by simp) ⟨fun hgh => hK _ _ _ _ _ (same g ⟨hgh, rfl⟩) hm, fun hgh => ⟨fun hs => ?_, fun _ => ?_⟩⟩)⟩
      · obtain ⟨id, hid⟩ := Option.isSome_iff_exists.1 hs
        rw [hid]
        refine hK _ _ _ _ _ ⟨.refl hI hl _, fun b hb => ⟨hb, by have := Nat.two_pow_pos ((b - mtop ns f g h).toNat); omega⟩, ?_⟩ hm
        rcases hm f g h id hid with h1 | ⟨_, _, _, h4, h5, h6⟩
        · exact .inl h1
        · exact .inr ⟨h4, h5, h6⟩
      have t0 := top_le hI.nod hf.2
      have t1 := top_le hI.nod hg.2
      have t2 := top_le hI.nod hh.2
      have hft := t0.2.2 (by omega)
      have ht : mtop ns f g h ≤ 1000 := by unfold mtop; omega
      have ht0 : 0 ≤ mtop ns f g h := by unfold mtop; omega
      refine ptest_ok hf (ptest_ok hg (ptest_ok hh ?_))
      rw [show min (min (top ns f) (top ns g)) (top ns h) = mtop ns f g h from rfl]
      refine pcof_ok hf ht (pcof_ok hg ht (pcof_ok hh ht ?_))
      obtain ⟨fa, fb, fc, fd, fe⟩ := sd_ok hI.nod hf ht (by unfold mtop; omega)
      obtain ⟨ga, gb, gc, gd, ge⟩ := sd_ok hI.nod hg ht (by unfold mtop; omega)
      obtain ⟨ha, hb, hc', hd, he⟩ := sd_ok hI.nod hh ht (by unfold mtop; omega)
      have cy : Cond ns (sd ns f (mtop ns f g h)).1 := fun v => by
        have := hc (setB v (mtop ns f g h) true)
        rw [fe] at this
        simp only [setB, if_true] at this
        rw [ev_set hI.nod fa fc] at this
        exact this
      have cn : Cond ns (sd ns f (mtop ns f g h)).2 := fun v => by
        have := hc (setB v (mtop ns f g h) false)
        rw [fe] at this
        simp only [setB, if_true, Bool.false_eq_true, if_false] at this
        rw [ev_set hI.nod fb fd] at this
        exact this
      have hty : mtop ns f g h < mtop ns (sd ns f (mtop ns f g h)).1 (sd ns g (mtop ns f g h)).1 (sd ns h (mtop ns f g h)).1 := by
        show _ < min (min _ _) _; omega
      have htn : mtop ns f g h < mtop ns (sd ns f (mtop ns f g h)).2 (sd ns g (mtop ns f g h)).2 (sd ns h (mtop ns f g h)).2 := by
        show _ < min (min _ _) _; omega
      refine ih _ _ _ _ _ _ _ _ (by omega) hI hl fa ga ha cy hm fun r1 ns1 ids1 full1 m1 C1 hm1 => ?_
      have hp1 := C1.grew.pre
      have hN1 := C1.grew.inv.nod
      have htn1 : mtop ns1 (sd ns f (mtop ns f g h)).2 (sd ns g (mtop ns f g h)).2 (sd ns h (mtop ns f g h)).2 = mtop ns (sd ns f (mtop ns f g h)).2 (sd ns g (mtop ns f g h)).2 (sd ns h (mtop ns f g h)).2 := mt_pre hp1 fb gb hb
      refine ⟨fun e1 => ?_, fun e1 => ?_⟩
      · refine hK _ _ _ _ _ ⟨⟨C1.grew.inv, C1.grew.pre, C1.grew.len, C1.grew.room, by have := C1.grew.len; omega⟩, fun b hb0 => ⟨(C1.few b hb0).1, ?_⟩, ?_⟩ hm1
        · have h1 := (C1.few b hb0).2
          have p1 := Nat.pow_le_pow_right (show 0 < 2 by omega) (show (b - mtop ns (sd ns f (mtop ns f g h)).1 (sd ns g (mtop ns f g h)).1 (sd ns h (mtop ns f g h)).1).toNat ≤ (b - mtop ns f g h).toNat by omega)
          omega
        · rcases C1.res with h1 | h1
          · exact .inl ⟨rfl, h1.2⟩
          · have := h1.1.1; omega
      refine ih _ _ _ _ _ _ _ _ (by rw [htn1]; omega) C1.grew.inv C1.grew.len (fb.pre hp1) (gb.pre hp1) (hb.pre hp1) (fun v => by rw [ev_pre hI.nod hN1 hp1 fb]; exact cn v) hm1 fun r2 ns2 ids2 full2 m2 C2 hm2 => ?_
      have hp2 := C2.grew.pre
      have hN2 := C2.grew.inv.nod
      have hp := hp1.trans hp2
      have few2 : ∀ b, Tb ns b → Tb ns2 b ∧ ns2.length + 2 ≤ ns.length + 2 ^ (b - mtop ns f g h).toNat := fun b hb0 => by
        obtain ⟨a1, a2⟩ := C1.few b hb0
        obtain ⟨a3, a4⟩ := C2.few b a1
        rw [htn1] at a4
        have hlt : mtop ns f g h < b := by
          have hq := hb0 f (by omega) hf.2
          have : top ns f = (nd ns f).1 := by simp only [top, if_neg hn]
          unfold mtop; omega
        refine ⟨a3, ?_⟩
        have e : 2 ^ (b - mtop ns f g h).toNat = 2 * 2 ^ (b - mtop ns f g h - 1).toNat := by
          rw [show (b - mtop ns f g h).toNat = (b - mtop ns f g h - 1).toNat + 1 by omega, Nat.pow_succ]; omega
        have p1 := Nat.pow_le_pow_right (show 0 < 2 by omega) (show (b - mtop ns (sd ns f (mtop ns f g h)).1 (sd ns g (mtop ns f g h)).1 (sd ns h (mtop ns f g h)).1).toNat ≤ (b - mtop ns f g h - 1).toNat by omega)
        have p2 := Nat.pow_le_pow_right (show 0 < 2 by omega) (show (b - mtop ns (sd ns f (mtop ns f g h)).2 (sd ns g (mtop ns f g h)).2 (sd ns h (mtop ns f g h)).2).toNat ≤ (b - mtop ns f g h - 1).toNat by omega)
        omega
      have gr2 : Grew ns ids full 4000 ns2 ids2 full2 := by
        have := C1.grew.trans C2.grew (Nat.le_refl _)
        exact ⟨this.inv, this.pre, this.len, this.room, by have := this.len; omega⟩
      have bad : ns2.length = 4000 → Cho ns ids full f g h (-1002) ns2 ids2 full2 := fun hb0 => ⟨gr2, fun b hb1 => ⟨(few2 b hb1).1, by have := (few2 b hb1).2; omega⟩, .inl ⟨rfl, hb0⟩⟩
      have full2' : r2 = -1002 → ns2.length = 4000 := fun e => by
        rcases C2.res with h1 | h1
        · exact h1.2
        · have := h1.1.1; omega
      refine ⟨fun e2 => hK _ _ _ _ _ (bad (full2' e2)) hm2, fun e2 => ?_⟩
      have o1 : Ok ns1 r1 ∧ Cse ns1 (sd ns f (mtop ns f g h)).1 (sd ns g (mtop ns f g h)).1 (sd ns h (mtop ns f g h)).1 r1 ∧ mtop ns (sd ns f (mtop ns f g h)).1 (sd ns g (mtop ns f g h)).1 (sd ns h (mtop ns f g h)).1 ≤ top ns1 r1 := by
        rcases C1.res with h1 | h1
        · exact absurd h1.1 e1
        · exact h1
      have o2 : Ok ns2 r2 ∧ Cse ns2 (sd ns f (mtop ns f g h)).2 (sd ns g (mtop ns f g h)).2 (sd ns h (mtop ns f g h)).2 r2 ∧ mtop ns1 (sd ns f (mtop ns f g h)).2 (sd ns g (mtop ns f g h)).2 (sd ns h (mtop ns f g h)).2 ≤ top ns2 r2 := by
        rcases C2.res with h1 | h1
        · exact absurd h1.1 e2
        · exact h1
      have o1t : top ns2 r1 = top ns1 r1 := top_pre hp2 o1.1.2
      have hO : NodeOk ns2 (mtop ns f g h) r1 r2 := ⟨ht0, ht, o1.1.pre hp2, o2.1, by rw [o1t]; have := o1.2.2; omega, by have := o2.2.2; rw [htn1] at this; omega⟩
      refine pNode_ok C2.grew.len ?_
      obtain ⟨hg3, htb, hres⟩ := node_ok C2.grew.inv C2.grew.len hO (r := (node ns2 ids2 full2 (mtop ns f g h) r1 r2).1) (ns' := (node ns2 ids2 full2 (mtop ns f g h) r1 r2).2.1) (ids' := (node ns2 ids2 full2 (mtop ns f g h) r1 r2).2.2.1) (full' := (node ns2 ids2 full2 (mtop ns f g h) r1 r2).2.2.2) rfl
      generalize (node ns2 ids2 full2 (mtop ns f g h) r1 r2).1 = r3 at hg3 htb hres
      generalize (node ns2 ids2 full2 (mtop ns f g h) r1 r2).2.1 = ns3 at hg3 htb hres
      generalize (node ns2 ids2 full2 (mtop ns f g h) r1 r2).2.2.1 = ids3 at hg3 htb hres
      generalize (node ns2 ids2 full2 (mtop ns f g h) r1 r2).2.2.2 = full3 at hg3 htb hres
      have hp3 := hp.trans hg3.pre
      have hN3 := hg3.inv.nod
      have hr3 : (r3 = -1002 ∧ ns3.length = 4000) ∨ (Ok ns3 r3 ∧ Cse ns3 f g h r3 ∧ mtop ns f g h ≤ top ns3 r3) := by
        rcases hres with h1 | ⟨_, h1, h2, h3⟩
        · exact .inl ⟨h1.1, h1.2.1⟩
        · refine .inr ⟨h1, fun v => ?_, h2⟩
          rw [h3, ev_pre hI.nod hN3 hp3 hf, ev_pre hI.nod hN3 hp3 hg, ev_pre hI.nod hN3 hp3 hh, fe, ge, he]
          cases v (mtop ns f g h) with
          | true =>
            simp only [if_true]
            rw [ev_pre hN1 hN2 hp2 o1.1, o1.2.1, ev_pre hI.nod hN1 hp1 fa, ev_pre hI.nod hN1 hp1 ga, ev_pre hI.nod hN1 hp1 ha]
          | false =>
            simp only [Bool.false_eq_true, if_false]
            rw [o2.2.1, ev_pre hI.nod hN2 hp fb, ev_pre hI.nod hN2 hp gb, ev_pre hI.nod hN2 hp hb]
      have hcho : Cho ns ids full f g h r3 ns3 ids3 full3 := by
        refine ⟨?_, fun b hb0 => ⟨?_, ?_⟩, hr3⟩
        · have := gr2.trans hg3 (Nat.le_refl _)
          exact ⟨this.inv, this.pre, this.len, this.room, by have := this.len; omega⟩
        · have hlt : mtop ns f g h < b := by
            have hq := hb0 f (by omega) hf.2
            have : top ns f = (nd ns f).1 := by simp only [top, if_neg hn]
            unfold mtop; omega
          exact htb b (few2 b hb0).1 hlt
        · have := (few2 b hb0).2
          have := hg3.most
          omega
      refine hK _ _ _ _ _ hcho (Kn.put (hm2.pre hN2 hN3 hg3.pre hg3.len) ?_)
      rcases hr3 with h1 | ⟨h1, h2, h3⟩
      · exact .inl h1
      · exact .inr ⟨hf.pre hp3, hg.pre hp3, hh.pre hp3, h1, h2, by rw [mt_pre hp3 hf hg hh]; exact h3⟩
  exact key _ ns ids full f g h m K (Nat.le_refl _) hI hl hf hg hh hc hm hK
end Go.Dg5
