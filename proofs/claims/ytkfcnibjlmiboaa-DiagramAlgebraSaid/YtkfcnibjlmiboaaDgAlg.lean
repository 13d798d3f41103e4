/- Conditions obey the laws of logic: equal functions have equal ids. Conditions: those in the statements. -/
import Derived.Test.YtkfcnibjlmiboaaDgMade
import Derived.Test.YtkfcnibjlmiboaaDgFull
namespace Go.Dg5
open Go.Fl Go.Fx Go.Dg

/-- An id stands for a function of truth values. -/
def Va (ns : List Nd) (id : Int) (a : (Int → Bool) → Bool) : Prop := Ok ns id ∧ ∀ v, ev ns v id = if a v = true then 1 else 0
theorem Va.cond {ns : List Nd} {id : Int} {a : (Int → Bool) → Bool} (h : Va ns id a) : Cond ns id := fun v => by rw [h.2]; split <;> simp
theorem Va.pre {ns ns' : List Nd} {id : Int} {a : (Int → Bool) → Bool} (hN : Nod ns) (hN' : Nod ns') (hp : ns <+: ns') (h : Va ns id a) : Va ns' id a := ⟨h.1.pre hp, fun v => by rw [ev_pre hN hN' hp h.1]; exact h.2 v⟩
theorem Va.eq {ns : List Nd} {x y : Int} {a b : (Int → Bool) → Bool} (hN : Nod ns) (h : Va ns x a) (k : Va ns y b) (e : ∀ v, a v = b v) : x = y := canon hN h.1 k.1 fun v => by rw [h.2, k.2, e]
theorem Va.no {ns : List Nd} : Va ns (-1) fun _ => false := ⟨⟨by omega, by omega⟩, fun v => by rw [ev_leaf (by omega)]; rfl⟩
theorem Va.yes {ns : List Nd} : Va ns (-2) fun _ => true := ⟨⟨by omega, by omega⟩, fun v => by rw [ev_leaf (by omega)]; rfl⟩
theorem Va.of {ns : List Nd} {id : Int} (h : Ok ns id) (c : Cond ns id) : Va ns id fun v => decide (ev ns v id = 1) := ⟨h, fun v => by
  rcases c v with e | e <;> simp [e]⟩
theorem op_va {ns ns' : List Nd} {ids ids' : Nd → Option Int} {full full' : Bool} {n f g h r : Int} {a b c : (Int → Bool) → Bool} {p : Prop} (T : One ns ids full n) (hn : n ≤ 3900) (hp : p) (F : Va ns f a) (G : Va ns g b) (H : Va ns h c)
    (C : OpR p ns ids full f g h r ns' ids' full') : One ns' ids' full' (n + 63) ∧ (∀ {x : Int} {d : (Int → Bool) → Bool}, Va ns x d → Va ns' x d) ∧ Va ns' r fun v => bif a v then b v else c v := by
  rcases C with ⟨_, C⟩ | ⟨e, _⟩
  · obtain ⟨T', hpre, hr, hc⟩ := T.cho hn F.1 G.1 H.1 C
    have up : ∀ {x : Int} {d : (Int → Bool) → Bool}, Va ns x d → Va ns' x d := fun h => h.pre T.inv.nod T'.inv.nod hpre
    refine ⟨T', up, hr, fun v => ?_⟩
    rw [hc v, (up F).2 v, (up G).2 v, (up H).2 v]
    cases ha : a v <;> simp [ha]
  · exact absurd hp e
/-- Which of the diagrams are conditions. -/
theorem leaves_loop {l : List Int} {K : Bool → Prop} (h : ∀ b, (b = true ↔ ∀ n ∈ l, n ≤ 1) → K b) (hl : l.length ≤ 100000) :
    Lp2 (fun (b : Bool) (i : Int) (Y : Bool → Int → Prop) => Cnd (i < (↑l.length : Int)) (((0 : Int) ≤ i ∧ i < (↑l.length : Int)) ∧ ∀ y, l[i.toNat]? = some y → Cnd (b = true) (InI (i + (1 : Int)) ∧ Y (decide (y ≤ (1 : Int))) (i + (1 : Int))) (InI (i + (1 : Int)) ∧ Y false (i + (1 : Int)))) (K b)) true (0 : Int) := by
  refine Lp2.ind (fun (b : Bool) (i : Int) => 0 ≤ i ∧ i ≤ l.length ∧ (b = true ↔ ∀ j : Nat, j < i.toNat → ∀ n, l[j]? = some n → n ≤ 1)) (fun _ i => (l.length - i).toNat) (fun b i hI => ?_) ⟨by omega, by omega, by simp⟩
  obtain ⟨h0, h1, h2⟩ := hI
  refine ⟨fun hlt => ⟨⟨h0, hlt⟩, fun y hy => ?_⟩, fun hge => h b (h2.trans ⟨fun a n hn => ?_, fun a j _ n hn => a n (List.mem_of_getElem? hn)⟩)⟩
  · have next : ∀ b' : Bool, (b' = true ↔ b = true ∧ y ≤ 1) → (0 ≤ i + 1 ∧ i + 1 ≤ l.length ∧ (b' = true ↔ ∀ j : Nat, j < (i + 1).toNat → ∀ n, l[j]? = some n → n ≤ 1)) ∧ (l.length - (i + 1)).toNat < (l.length - i).toNat := fun b' e => by
      refine ⟨⟨by omega, by omega, ?_⟩, by omega⟩
      rw [e, h2]
      refine ⟨fun a j hj n hn => ?_, fun a => ⟨fun j hj n hn => a j (by omega) n hn, a i.toNat (by omega) y hy⟩⟩
      by_cases hji : j = i.toNat
      · subst hji; rw [hy] at hn; cases hn; exact a.2
      · exact a.1 j (by omega) n hn
    exact ⟨fun hb => ⟨⟨by omega, by omega⟩, next _ (by simp [hb])⟩, fun hb => ⟨⟨by omega, by omega⟩, next _ (by simp [hb])⟩⟩
  · obtain ⟨j, hj⟩ := List.mem_iff_getElem?.1 hn
    exact a j (by have := (List.getElem?_eq_some_iff.1 hj).1; omega) n hj

/-- The laws of logic at three conditions. -/
def P_laws (ns : List Nd) (ids : Nd → Option Int) (full : Bool) (f g h : Int) (K : Bool → Prop) : Prop :=
  P_pNot ns ids full f fun a ns ids full => P_pNot ns ids full a fun b ns ids full => Cnd (b = f)
    (P_pAnd ns ids full f g fun a ns ids full => P_pAnd ns ids full g f fun b ns ids full => Cnd (a = b)
      (P_pOr ns ids full f g fun a ns ids full => P_pNot ns ids full f fun b ns ids full => P_pNot ns ids full g fun c ns ids full => P_pAnd ns ids full b c fun d ns ids full => P_pNot ns ids full d fun e ns ids full => Cnd (a = e)
        (P_pOr ns ids full g h fun a ns ids full => P_pAnd ns ids full f a fun b ns ids full => P_pAnd ns ids full f g fun c ns ids full => P_pAnd ns ids full f h fun d ns ids full => P_pOr ns ids full c d fun e ns ids full => Cnd (b = e)
          (P_pNot ns ids full f fun a ns ids full => P_pAnd ns ids full f a fun b ns ids full => Cnd (b = (-1 : Int))
            (P_pNot ns ids full f fun a ns ids full => P_pOr ns ids full f a fun b ns ids full => Cnd (b = (-2 : Int))
              (P_pChoose ns ids full f g h fun a ns ids full => P_pAnd ns ids full f g fun b ns ids full => P_pNot ns ids full f fun c ns ids full => P_pAnd ns ids full c h fun d ns ids full => P_pOr ns ids full b d fun e _ _ _ => K (decide (a = e)))
              (K false)) (K false)) (K false)) (K false)) (K false)) (K false)
theorem laws_ok {ns : List Nd} {ids : Nd → Option Int} {full : Bool} {f g h : Int} {a b c : (Int → Bool) → Bool} {K : Bool → Prop} (T : One ns ids full 1600) (F : Va ns f a) (G : Va ns g b) (H : Va ns h c) (hK : K true) :
    P_laws ns ids full f g h K := by
  unfold P_laws
  refine pNot_ok T.inv (by have := T.len; omega) fun r1 ns1 ids1 u1 C => ?_
  obtain ⟨T', up, R1⟩ := op_va T (by omega) ⟨F.1, F.cond⟩ F .no .yes C
  clear C
  have F := up F
  have G := up G
  have H := up H
  have T := T'
  refine pNot_ok T.inv (by have := T.len; omega) fun r2 ns2 ids2 u2 C => ?_
  obtain ⟨T', up, R2⟩ := op_va T (by omega) ⟨R1.1, R1.cond⟩ R1 .no .yes C
  clear C
  have F := up F
  have G := up G
  have H := up H
  have R1 := up R1
  have T := T'
  refine Cnd.yes (Va.eq T.inv.nod R2 F fun v => by cases a v <;> cases b v <;> cases c v <;> rfl) ?_
  refine pAnd_ok T.inv (by have := T.len; omega) fun r3 ns3 ids3 u3 C => ?_
  obtain ⟨T', up, R3⟩ := op_va T (by omega) ⟨F.1, F.cond, G.1, G.cond⟩ F G .no C
  clear C
  have F := up F
  have G := up G
  have H := up H
  have T := T'
  refine pAnd_ok T.inv (by have := T.len; omega) fun r4 ns4 ids4 u4 C => ?_
  obtain ⟨T', up, R4⟩ := op_va T (by omega) ⟨G.1, G.cond, F.1, F.cond⟩ G F .no C
  clear C
  have F := up F
  have G := up G
  have H := up H
  have R3 := up R3
  have T := T'
  refine Cnd.yes (Va.eq T.inv.nod R3 R4 fun v => by cases a v <;> cases b v <;> cases c v <;> rfl) ?_
  refine pOr_ok T.inv (by have := T.len; omega) fun r5 ns5 ids5 u5 C => ?_
  obtain ⟨T', up, R5⟩ := op_va T (by omega) ⟨F.1, F.cond, G.1, G.cond⟩ F .yes G C
  clear C
  have F := up F
  have G := up G
  have H := up H
  have T := T'
  refine pNot_ok T.inv (by have := T.len; omega) fun r6 ns6 ids6 u6 C => ?_
  obtain ⟨T', up, R6⟩ := op_va T (by omega) ⟨F.1, F.cond⟩ F .no .yes C
  clear C
  have F := up F
  have G := up G
  have H := up H
  have R5 := up R5
  have T := T'
  refine pNot_ok T.inv (by have := T.len; omega) fun r7 ns7 ids7 u7 C => ?_
  obtain ⟨T', up, R7⟩ := op_va T (by omega) ⟨G.1, G.cond⟩ G .no .yes C
  clear C
  have F := up F
  have G := up G
  have H := up H
  have R5 := up R5
  have R6 := up R6
  have T := T'
  refine pAnd_ok T.inv (by have := T.len; omega) fun r8 ns8 ids8 u8 C => ?_
  obtain ⟨T', up, R8⟩ := op_va T (by omega) ⟨R6.1, R6.cond, R7.1, R7.cond⟩ R6 R7 .no C
  clear C
  have F := up F
  have G := up G
  have H := up H
  have R5 := up R5
  have R6 := up R6
  have R7 := up R7
  have T := T'
  refine pNot_ok T.inv (by have := T.len; omega) fun r9 ns9 ids9 u9 C => ?_
  obtain ⟨T', up, R9⟩ := op_va T (by omega) ⟨R8.1, R8.cond⟩ R8 .no .yes C
  clear C
  have F := up F
  have G := up G
  have H := up H
  have R5 := up R5
  have R6 := up R6
  have R7 := up R7
  have R8 := up R8
  have T := T'
  refine Cnd.yes (Va.eq T.inv.nod R5 R9 fun v => by cases a v <;> cases b v <;> cases c v <;> rfl) ?_
  refine pOr_ok T.inv (by have := T.len; omega) fun r10 ns10 ids10 u10 C => ?_
  obtain ⟨T', up, R10⟩ := op_va T (by omega) ⟨G.1, G.cond, H.1, H.cond⟩ G .yes H C
  clear C
  have F := up F
  have G := up G
  have H := up H
  have T := T'
  refine pAnd_ok T.inv (by have := T.len; omega) fun r11 ns11 ids11 u11 C => ?_
  obtain ⟨T', up, R11⟩ := op_va T (by omega) ⟨F.1, F.cond, R10.1, R10.cond⟩ F R10 .no C
  clear C
  have F := up F
  have G := up G
  have H := up H
  have R10 := up R10
  have T := T'
  refine pAnd_ok T.inv (by have := T.len; omega) fun r12 ns12 ids12 u12 C => ?_
  obtain ⟨T', up, R12⟩ := op_va T (by omega) ⟨F.1, F.cond, G.1, G.cond⟩ F G .no C
  clear C
  have F := up F
  have G := up G
  have H := up H
  have R10 := up R10
  have R11 := up R11
  have T := T'
  refine pAnd_ok T.inv (by have := T.len; omega) fun r13 ns13 ids13 u13 C => ?_
  obtain ⟨T', up, R13⟩ := op_va T (by omega) ⟨F.1, F.cond, H.1, H.cond⟩ F H .no C
  clear C
  have F := up F
  have G := up G
  have H := up H
  have R10 := up R10
  have R11 := up R11
  have R12 := up R12
  have T := T'
  refine pOr_ok T.inv (by have := T.len; omega) fun r14 ns14 ids14 u14 C => ?_
  obtain ⟨T', up, R14⟩ := op_va T (by omega) ⟨R12.1, R12.cond, R13.1, R13.cond⟩ R12 .yes R13 C
  clear C
  have F := up F
  have G := up G
  have H := up H
  have R10 := up R10
  have R11 := up R11
  have R12 := up R12
  have R13 := up R13
  have T := T'
  refine Cnd.yes (Va.eq T.inv.nod R11 R14 fun v => by cases a v <;> cases b v <;> cases c v <;> rfl) ?_
  refine pNot_ok T.inv (by have := T.len; omega) fun r15 ns15 ids15 u15 C => ?_
  obtain ⟨T', up, R15⟩ := op_va T (by omega) ⟨F.1, F.cond⟩ F .no .yes C
  clear C
  have F := up F
  have G := up G
  have H := up H
  have T := T'
  refine pAnd_ok T.inv (by have := T.len; omega) fun r16 ns16 ids16 u16 C => ?_
  obtain ⟨T', up, R16⟩ := op_va T (by omega) ⟨F.1, F.cond, R15.1, R15.cond⟩ F R15 .no C
  clear C
  have F := up F
  have G := up G
  have H := up H
  have R15 := up R15
  have T := T'
  refine Cnd.yes (Va.eq T.inv.nod R16 (Va.no (ns := ns16)) fun v => by cases a v <;> cases b v <;> cases c v <;> rfl) ?_
  refine pNot_ok T.inv (by have := T.len; omega) fun r17 ns17 ids17 u17 C => ?_
  obtain ⟨T', up, R17⟩ := op_va T (by omega) ⟨F.1, F.cond⟩ F .no .yes C
  clear C
  have F := up F
  have G := up G
  have H := up H
  have T := T'
  refine pOr_ok T.inv (by have := T.len; omega) fun r18 ns18 ids18 u18 C => ?_
  obtain ⟨T', up, R18⟩ := op_va T (by omega) ⟨F.1, F.cond, R17.1, R17.cond⟩ F .yes R17 C
  clear C
  have F := up F
  have G := up G
  have H := up H
  have R17 := up R17
  have T := T'
  refine Cnd.yes (Va.eq T.inv.nod R18 (Va.yes (ns := ns18)) fun v => by cases a v <;> cases b v <;> cases c v <;> rfl) ?_
  refine pChoose_ok T.inv (by have := T.len; omega) fun r19 ns19 ids19 u19 C => ?_
  obtain ⟨T', up, R19⟩ := op_va T (by omega) ⟨F.1, F.cond, G.1, H.1⟩ F G H C.op
  clear C
  have F := up F
  have G := up G
  have H := up H
  have T := T'
  refine pAnd_ok T.inv (by have := T.len; omega) fun r20 ns20 ids20 u20 C => ?_
  obtain ⟨T', up, R20⟩ := op_va T (by omega) ⟨F.1, F.cond, G.1, G.cond⟩ F G .no C
  clear C
  have F := up F
  have G := up G
  have H := up H
  have R19 := up R19
  have T := T'
  refine pNot_ok T.inv (by have := T.len; omega) fun r21 ns21 ids21 u21 C => ?_
  obtain ⟨T', up, R21⟩ := op_va T (by omega) ⟨F.1, F.cond⟩ F .no .yes C
  clear C
  have F := up F
  have G := up G
  have H := up H
  have R19 := up R19
  have R20 := up R20
  have T := T'
  refine pAnd_ok T.inv (by have := T.len; omega) fun r22 ns22 ids22 u22 C => ?_
  obtain ⟨T', up, R22⟩ := op_va T (by omega) ⟨R21.1, R21.cond, H.1, H.cond⟩ R21 H .no C
  clear C
  have F := up F
  have G := up G
  have H := up H
  have R19 := up R19
  have R20 := up R20
  have R21 := up R21
  have T := T'
  refine pOr_ok T.inv (by have := T.len; omega) fun r23 ns23 ids23 u23 C => ?_
  obtain ⟨T', up, R23⟩ := op_va T (by omega) ⟨R20.1, R20.cond, R22.1, R22.cond⟩ R20 .yes R22 C
  clear C
  have F := up F
  have G := up G
  have H := up H
  have R19 := up R19
  have R20 := up R20
  have R21 := up R21
  have R22 := up R22
  have T := T'
  rw [decide_eq_true (Va.eq T.inv.nod R19 R23 fun v => by cases a v <;> cases b v <;> cases c v <;> rfl)]
  exact hK
theorem algebra_ok {codes : List Int} {i j k : Int} {K : Bool → Prop} (hc : ∀ x ∈ codes, 0 ≤ x ∧ x < 256) (h : K true) : P_lAlg codes i j k K := by
  unfold P_lAlg S_lAlg
  refine awake_ok (Cnd.yes rfl (made_ok hc (by decide) (by decide) fun pns pids pfull rns rids rfull all M hm hl => Cnd.yes rfl fun _ => ?_))
  have hNr := M.rone.inv.nod
  refine Lp5.ind (fun (l : List Int) (i : Int) (ns : List Nd) (full : Bool) (ids : Nd → Option Int) => ns = rns ∧ ids = rids ∧ full = rfull ∧ 0 ≤ i ∧ i ≤ all.length ∧ (l.length : Int) ≤ i ∧ (∀ x ∈ l, Ok pns x ∧ Cond pns x) ∧ (∀ q : Nat, q < i.toNat → ∀ y, all[q]? = some y → Cond pns y.1 → y.1 ∈ l))
    (fun _ i _ _ _ => (all.length - i).toNat) (fun l i ns full ids hI => ?_) ⟨rfl, rfl, rfl, by omega, by omega, by simp, by simp, fun q hq => by omega⟩
  obtain ⟨rfl, rfl, rfl, h0, h1, h2, h3, h4⟩ := hI
  refine ⟨fun hlt => ⟨⟨h0, hlt⟩, fun y hy => ?_⟩, fun hge => ?_⟩
  · have E := M.eqv y (List.mem_of_getElem? hy)
    refine rLeaves_ok hNr (by have := M.rone.len; omega) fun lv hlv => fun _ => ?_
    have hsm : lv.length ≤ 100000 := by
      have hnd : lv.Nodup := hlv.1.imp fun h => by omega
      have := nodup_le hnd (l' := (univ ns).map fun x => -1 - x) fun x hx => List.mem_map.2 ⟨-1 - x, mem_univ ((((hlv.2 x).1 hx).2.2).ok hNr E.2.1), by omega⟩
      simp [univ] at this
      have := M.rone.len
      omega
    refine leaves_loop (fun b hb => ?_) hsm
    have hcond : b = true ↔ Cond pns y.1 := hb.trans ((cond_iff hNr E.2.1 hlv).symm.trans E.cond.symm)
    refine ⟨fun hbt => ⟨by unfold Sml; simp; omega, ⟨by omega, by omega⟩, ⟨rfl, rfl, rfl, by omega, by omega, by simp; omega, fun x hx => ?_, fun q hq z hz hcz => ?_⟩, by omega⟩,
      fun hbt => ⟨⟨by omega, by omega⟩, ⟨rfl, rfl, rfl, by omega, by omega, by omega, h3, fun q hq z hz hcz => ?_⟩, by omega⟩⟩
    · rcases List.mem_append.1 hx with hx | hx
      · exact h3 x hx
      · simp only [List.mem_singleton] at hx
        subst hx
        exact ⟨E.1, hcond.1 hbt⟩
    · by_cases hqi : q = i.toNat
      · subst hqi; rw [hy] at hz; cases hz; simp
      · exact List.mem_append.2 (.inl (h4 q (by omega) z hz hcz))
    · by_cases hqi : q = i.toNat
      · subst hqi; rw [hy] at hz; cases hz; exact absurd (hcond.2 hcz) hbt
      · exact h4 q (by omega) z hz hcz
  · have hm1 : (-1 : Int) ∈ l := by
      obtain ⟨q, hq⟩ := List.mem_iff_getElem?.1 hm
      exact h4 q (by have := (List.getElem?_eq_some_iff.1 hq).1; omega) _ hq (Va.no (ns := pns)).cond
    have hpos : 0 < l.length := List.length_pos_of_mem hm1
    have bnd : (l.length : Int) ≤ 4294967296 := by omega
    refine fun _ _ _ => mod_ok (by omega) bnd fun p p0 p1 => ⟨⟨p0, p1⟩, fun f hf => mod_ok (by omega) bnd fun p p0 p1 => ⟨⟨p0, p1⟩, fun g hg => mod_ok (by omega) bnd fun p p0 p1 => ⟨⟨p0, p1⟩, fun x hx => ?_⟩⟩⟩
    have vf := h3 f (List.mem_of_getElem? hf)
    have vg := h3 g (List.mem_of_getElem? hg)
    have vx := h3 x (List.mem_of_getElem? hx)
    exact laws_ok M.one (Va.of vf.1 vf.2) (Va.of vg.1 vg.2) (Va.of vx.1 vx.2) h
end Go.Dg5
