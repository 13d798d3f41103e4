/- The plain meanings of the functions of diagram, of its document and of its laws. Conditions: none. -/
import Derived.Test.YtkfcnibjlmiboaaFxView
open Go Go.Fl Go.Fx
namespace Go.Dg5
def P_rNew  (K : List (Int × Int × Int) → (Int × Int × Int → Option (Int)) → Bool → Prop) : Prop :=
  K [] (fun _ => none) false
def P_rLeaf (ns : List (Int × Int × Int)) (ids : (Int × Int × Int → Option (Int))) (full : Bool) (n : Int) (K : Int → List (Int × Int × Int) → (Int × Int × Int → Option (Int)) → Bool → Prop) : Prop :=
  Cnd (n < (0 : Int)) (K (-1002 : Int) ns ids full)
    (Cnd ((1000 : Int) < n) (K (-1002 : Int) ns ids full)
      (InI ((-1 : Int) - n) ∧ K ((-1 : Int) - n) ns ids full))
def P_ris (ns : List (Int × Int × Int)) (ids : (Int × Int × Int → Option (Int))) (full : Bool) (id : Int) (K : Bool → List (Int × Int × Int) → (Int × Int × Int → Option (Int)) → Bool → Prop) : Prop :=
  Cnd ((-1002 : Int) < id)
    (ns.length ≤ (9223372036854775807 : Nat) → K (decide (id < (↑ns.length : Int))) ns ids full)
    (K false ns ids full)
def P_rtop (ns : List (Int × Int × Int)) (ids : (Int × Int × Int → Option (Int))) (full : Bool) (id : Int) (K : Int → List (Int × Int × Int) → (Int × Int × Int → Option (Int)) → Bool → Prop) : Prop :=
  Cnd (id < (0 : Int)) (K (1001 : Int) ns ids full)
    (((0 : Int) ≤ id ∧ id < (↑ns.length : Int)) ∧ ∀ y0, ns[id.toNat]? = some y0 → K y0.fst ns ids full)
def P_rNode (ns : List (Int × Int × Int)) (ids : (Int × Int × Int → Option (Int))) (full : Bool) (test : Int) (yes : Int) (no : Int) (K : Int → List (Int × Int × Int) → (Int × Int × Int → Option (Int)) → Bool → Prop) : Prop :=
  Cnd (test < (0 : Int)) (K (-1002 : Int) ns ids full)
    (Cnd ((1000 : Int) < test) (K (-1002 : Int) ns ids full)
      (P_ris ns ids full yes fun x0_0 x0_1 Y0_2 x0_3 =>
        Cnd (x0_0 = true)
          (P_ris x0_1 Y0_2 x0_3 no fun x1_0 x1_1 Y1_2 x1_3 =>
            Cnd (x1_0 = true)
              (P_rtop x1_1 Y1_2 x1_3 yes fun x2_0 x2_1 Y2_2 x2_3 =>
                Cnd (x2_0 ≤ test) (K (-1002 : Int) x2_1 Y2_2 x2_3)
                  (P_rtop x2_1 Y2_2 x2_3 no fun x3_0 x3_1 Y3_2 x3_3 =>
                    Cnd (x3_0 ≤ test) (K (-1002 : Int) x3_1 Y3_2 x3_3)
                      (Cnd (yes = no) (K yes x3_1 Y3_2 x3_3)
                        (Cnd ((Y3_2 (test, yes, no)).isSome = true)
                          (K ((Y3_2 (test, yes, no)).getD (0 : Int)) x3_1 Y3_2 x3_3)
                          (x3_1.length ≤ (9223372036854775807 : Nat) →
                            Cnd ((4000 : Int) ≤ (↑x3_1.length : Int)) (K (-1002 : Int) x3_1 Y3_2 true)
                              (x3_1.length ≤ (9223372036854775807 : Nat) →
                                Sml (x3_1 ++ [(test, yes, no)]).length ∧
                                  ((x3_1 ++ [(test, yes, no)]).length ≤ (9223372036854775807 : Nat) →
                                    InI ((↑(x3_1 ++ [(test, yes, no)]).length : Int) - (1 : Int)) ∧
                                      K ((↑(x3_1 ++ [(test, yes, no)]).length : Int) - (1 : Int))
                                        (x3_1 ++ [(test, yes, no)]) (put Y3_2 (test, yes, no) (↑x3_1.length : Int))
                                        x3_3)))))))
              (K (-1002 : Int) x1_1 Y1_2 x1_3))
          (K (-1002 : Int) x0_1 Y0_2 x0_3)))
def P_rsides (ns : List (Int × Int × Int)) (ids : (Int × Int × Int → Option (Int))) (full : Bool) (id : Int) (test : Int) (K : Int → Int → List (Int × Int × Int) → (Int × Int × Int → Option (Int)) → Bool → Prop) : Prop :=
  P_rtop ns ids full id fun x0_0 x0_1 Y0_2 x0_3 =>
    Cnd (x0_0 = test)
      (((0 : Int) ≤ id ∧ id < (↑x0_1.length : Int)) ∧
        ∀ y1,
          x0_1[id.toNat]? = some y1 →
            ((0 : Int) ≤ id ∧ id < (↑x0_1.length : Int)) ∧
              ∀ y3, x0_1[id.toNat]? = some y3 → K y1.snd.fst y3.snd.snd x0_1 Y0_2 x0_3)
      (K id id x0_1 Y0_2 x0_3)
def S_rchoose (X : List (Int × Int × Int) → (Int × Int × Int → Option (Int)) → Bool → Int → Int → Int → (Int × Int × Int → Option (Int)) → (Int → List (Int × Int × Int) → (Int × Int × Int → Option (Int)) → Bool → (Int × Int × Int → Option (Int)) → Prop) → Prop) (ns : List (Int × Int × Int)) (ids : (Int × Int × Int → Option (Int))) (full : Bool) (f : Int) (g : Int) (h : Int) (known : (Int × Int × Int → Option (Int))) (K : Int → List (Int × Int × Int) → (Int × Int × Int → Option (Int)) → Bool → (Int × Int × Int → Option (Int)) → Prop) : Prop :=
  Cnd (f = (-2 : Int)) (K g ns ids full known)
    (Cnd (g = h) (K g ns ids full known)
      (Cnd (f = (-1 : Int)) (K h ns ids full known)
        (Cnd ((known (f, g, h)).isSome = true) (K ((known (f, g, h)).getD (0 : Int)) ns ids full known)
          (P_rtop ns ids full f fun x0_0 x0_1 Y0_2 x0_3 =>
            P_rtop x0_1 Y0_2 x0_3 g fun x1_0 x1_1 Y1_2 x1_3 =>
              P_rtop x1_1 Y1_2 x1_3 h fun x2_0 x2_1 Y2_2 x2_3 =>
                P_rsides x2_1 Y2_2 x2_3 f (Min.min (Min.min x0_0 x1_0) x2_0) fun x3_0 x3_1 x3_2 Y3_3 x3_4 =>
                  P_rsides x3_2 Y3_3 x3_4 g (Min.min (Min.min x0_0 x1_0) x2_0) fun x4_0 x4_1 x4_2 Y4_3 x4_4 =>
                    P_rsides x4_2 Y4_3 x4_4 h (Min.min (Min.min x0_0 x1_0) x2_0) fun x5_0 x5_1 x5_2 Y5_3 x5_4 =>
                      X x5_2 Y5_3 x5_4 x3_0 x4_0 x5_0 known fun x6_0 x6_1 Y6_2 x6_3 Y6_4 =>
                        X x6_1 Y6_2 x6_3 x3_1 x4_1 x5_1 Y6_4 fun x7_0 x7_1 Y7_2 x7_3 Y7_4 =>
                          Cnd (x6_0 = (-1002 : Int))
                            (K (-1002 : Int) x7_1 Y7_2 x7_3 (put Y7_4 (f, g, h) (-1002 : Int)))
                            (Cnd (x7_0 = (-1002 : Int))
                              (K (-1002 : Int) x7_1 Y7_2 x7_3 (put Y7_4 (f, g, h) (-1002 : Int)))
                              (P_rNode x7_1 Y7_2 x7_3 (Min.min (Min.min x0_0 x1_0) x2_0) x6_0 x7_0
                                fun x8_0 x8_1 Y8_2 x8_3 => K x8_0 x8_1 Y8_2 x8_3 (put Y7_4 (f, g, h) x8_0)))))))
def P_rchoose (ns : List (Int × Int × Int)) (ids : (Int × Int × Int → Option (Int))) (full : Bool) (f : Int) (g : Int) (h : Int) (known : (Int × Int × Int → Option (Int))) (K : Int → List (Int × Int × Int) → (Int × Int × Int → Option (Int)) → Bool → (Int × Int × Int → Option (Int)) → Prop) : Prop := ∀ (X : List (Int × Int × Int) → (Int × Int × Int → Option (Int)) → Bool → Int → Int → Int → (Int × Int × Int → Option (Int)) → (Int → List (Int × Int × Int) → (Int × Int × Int → Option (Int)) → Bool → (Int × Int × Int → Option (Int)) → Prop) → Prop), (∀ (ns : List (Int × Int × Int)) (ids : (Int × Int × Int → Option (Int))) (full : Bool) (f : Int) (g : Int) (h : Int) (known : (Int × Int × Int → Option (Int))) (K : Int → List (Int × Int × Int) → (Int × Int × Int → Option (Int)) → Bool → (Int × Int × Int → Option (Int)) → Prop), S_rchoose X ns ids full f g h known K → X ns ids full f g h known K) → X ns ids full f g h known K
def P_rreach (ns : List (Int × Int × Int)) (ids : (Int × Int × Int → Option (Int))) (full : Bool) (id : Int) (K : (Int → Option (Bool)) → List (Int × Int × Int) → (Int × Int × Int → Option (Int)) → Bool → Prop) : Prop :=
  Lp2
    (fun x0_0 Y0_1 Y0_2 =>
      x0_0.length ≤ (9223372036854775807 : Nat) →
        Cnd ((0 : Int) < (↑x0_0.length : Int))
          (x0_0.length ≤ (9223372036854775807 : Nat) →
            InI ((↑x0_0.length : Int) - (1 : Int)) ∧
              ((0 : Int) ≤ (↑x0_0.length : Int) - (1 : Int) ∧ (↑x0_0.length : Int) - (1 : Int) < (↑x0_0.length : Int)) ∧
                ∀ y3,
                  x0_0[((↑x0_0.length : Int) - (1 : Int)).toNat]? = some y3 →
                    x0_0.length ≤ (9223372036854775807 : Nat) →
                      InI ((↑x0_0.length : Int) - (1 : Int)) ∧
                        ((0 : Int) ≤ (↑x0_0.length : Int) - (1 : Int) ∧
                            (↑x0_0.length : Int) - (1 : Int) ≤ (↑x0_0.length : Int)) ∧
                          Cnd ((Y0_1 y3).getD false = true)
                            (Y0_2 (List.take ((↑x0_0.length : Int) - (1 : Int)).toNat x0_0) Y0_1)
                            (Cnd ((0 : Int) ≤ y3)
                              (((0 : Int) ≤ y3 ∧ y3 < (↑ns.length : Int)) ∧
                                ∀ y6,
                                  ns[y3.toNat]? = some y6 →
                                    ((0 : Int) ≤ y3 ∧ y3 < (↑ns.length : Int)) ∧
                                      ∀ y8,
                                        ns[y3.toNat]? = some y8 →
                                          Sml
                                              (List.take ((↑x0_0.length : Int) - (1 : Int)).toNat x0_0 ++
                                                  [y6.snd.fst, y8.snd.snd]).length ∧
                                            Y0_2
                                              (List.take ((↑x0_0.length : Int) - (1 : Int)).toNat x0_0 ++
                                                [y6.snd.fst, y8.snd.snd])
                                              (put Y0_1 y3 true))
                              (Y0_2 (List.take ((↑x0_0.length : Int) - (1 : Int)).toNat x0_0)
                                (put Y0_1 y3 true))))
          (K Y0_1 ns ids full))
    [id] fun _ => none
def P_rLeaves (ns : List (Int × Int × Int)) (ids : (Int × Int × Int → Option (Int))) (full : Bool) (id : Int) (K : List (Int) → List (Int × Int × Int) → (Int × Int × Int → Option (Int)) → Bool → Prop) : Prop :=
  P_ris ns ids full id fun x0_0 x0_1 Y0_2 x0_3 =>
    Cnd (x0_0 = true)
      (P_rreach x0_1 Y0_2 x0_3 id fun Y1_0 x1_1 Y1_2 x1_3 =>
        Lp2
          (fun x2_0 x2_1 Y2_2 =>
            Cnd (x2_1 ≤ (1000 : Int))
              (InI ((-1 : Int) - x2_1) ∧
                Cnd ((Y1_0 ((-1 : Int) - x2_1)).getD false = true)
                  (Sml (x2_0 ++ [x2_1]).length ∧
                    InI (x2_1 + (1 : Int)) ∧ Y2_2 (x2_0 ++ [x2_1]) (x2_1 + (1 : Int)))
                  (InI (x2_1 + (1 : Int)) ∧ Y2_2 x2_0 (x2_1 + (1 : Int))))
              (K x2_0 x1_1 Y1_2 x1_3))
          [] (0 : Int))
      (K [] x0_1 Y0_2 x0_3)
def P_rcond (ns : List (Int × Int × Int)) (ids : (Int × Int × Int → Option (Int))) (full : Bool) (id : Int) (K : Bool → List (Int × Int × Int) → (Int × Int × Int → Option (Int)) → Bool → Prop) : Prop :=
  P_ris ns ids full id fun x0_0 x0_1 Y0_2 x0_3 =>
    Cnd (x0_0 = true)
      (P_rLeaves x0_1 Y0_2 x0_3 id fun x1_0 x1_1 Y1_2 x1_3 =>
        Lp1
          (fun x2_0 Y2_1 =>
            x1_0.length ≤ (9223372036854775807 : Nat) →
              Cnd (x2_0 < (↑x1_0.length : Int))
                (((0 : Int) ≤ x2_0 ∧ x2_0 < (↑x1_0.length : Int)) ∧
                  ∀ y4,
                    x1_0[x2_0.toNat]? = some y4 →
                      Cnd ((1 : Int) < y4) (K false x1_1 Y1_2 x1_3)
                        (InI (x2_0 + (1 : Int)) ∧ Y2_1 (x2_0 + (1 : Int))))
                (K true x1_1 Y1_2 x1_3))
          (0 : Int))
      (K false x0_1 Y0_2 x0_3)
def P_rChoose (ns : List (Int × Int × Int)) (ids : (Int × Int × Int → Option (Int))) (full : Bool) (f : Int) (g : Int) (h : Int) (K : Int → List (Int × Int × Int) → (Int × Int × Int → Option (Int)) → Bool → Prop) : Prop :=
  P_rcond ns ids full f fun x0_0 x0_1 Y0_2 x0_3 =>
    Cnd (x0_0 = true)
      (P_ris x0_1 Y0_2 x0_3 g fun x1_0 x1_1 Y1_2 x1_3 =>
        Cnd (x1_0 = true)
          (P_ris x1_1 Y1_2 x1_3 h fun x2_0 x2_1 Y2_2 x2_3 =>
            Cnd (x2_0 = true)
              (P_rchoose x2_1 Y2_2 x2_3 f g h (fun _ => none) fun x3_0 x3_1 Y3_2 x3_3 _ =>
                K x3_0 x3_1 Y3_2 x3_3)
              (K (-1002 : Int) x2_1 Y2_2 x2_3))
          (K (-1002 : Int) x1_1 Y1_2 x1_3))
      (K (-1002 : Int) x0_1 Y0_2 x0_3)
def P_rAnd (ns : List (Int × Int × Int)) (ids : (Int × Int × Int → Option (Int))) (full : Bool) (f : Int) (g : Int) (K : Int → List (Int × Int × Int) → (Int × Int × Int → Option (Int)) → Bool → Prop) : Prop :=
  P_rcond ns ids full g fun x0_0 x0_1 Y0_2 x0_3 =>
    Cnd (x0_0 = true)
      (P_rChoose x0_1 Y0_2 x0_3 f g (-1 : Int) fun x1_0 x1_1 Y1_2 x1_3 => K x1_0 x1_1 Y1_2 x1_3)
      (K (-1002 : Int) x0_1 Y0_2 x0_3)
def P_rOr (ns : List (Int × Int × Int)) (ids : (Int × Int × Int → Option (Int))) (full : Bool) (f : Int) (g : Int) (K : Int → List (Int × Int × Int) → (Int × Int × Int → Option (Int)) → Bool → Prop) : Prop :=
  P_rcond ns ids full g fun x0_0 x0_1 Y0_2 x0_3 =>
    Cnd (x0_0 = true)
      (P_rChoose x0_1 Y0_2 x0_3 f (-2 : Int) g fun x1_0 x1_1 Y1_2 x1_3 => K x1_0 x1_1 Y1_2 x1_3)
      (K (-1002 : Int) x0_1 Y0_2 x0_3)
def P_rNot (ns : List (Int × Int × Int)) (ids : (Int × Int × Int → Option (Int))) (full : Bool) (f : Int) (K : Int → List (Int × Int × Int) → (Int × Int × Int → Option (Int)) → Bool → Prop) : Prop :=
  P_rChoose ns ids full f (-1 : Int) (-2 : Int) fun x0_0 x0_1 Y0_2 x0_3 => K x0_0 x0_1 Y0_2 x0_3
def P_rRun (ns : List (Int × Int × Int)) (ids : (Int × Int × Int → Option (Int))) (full : Bool) (id : Int) (holds : List (Bool)) (K : Int → List (Int × Int × Int) → (Int × Int × Int → Option (Int)) → Bool → Prop) : Prop :=
  P_ris ns ids full id fun x0_0 x0_1 Y0_2 x0_3 =>
    Cnd (x0_0 = true)
      (Lp1
        (fun x1_0 Y1_1 =>
          Cnd ((0 : Int) ≤ x1_0)
            (((0 : Int) ≤ x1_0 ∧ x1_0 < (↑x0_1.length : Int)) ∧
              ∀ y2,
                x0_1[x1_0.toNat]? = some y2 →
                  holds.length ≤ (9223372036854775807 : Nat) →
                    Cnd (y2.fst < (↑holds.length : Int))
                      (((0 : Int) ≤ y2.fst ∧ y2.fst < (↑holds.length : Int)) ∧
                        ∀ y5,
                          holds[y2.fst.toNat]? = some y5 →
                            Cnd (y5 = true) (Y1_1 y2.snd.fst) (Y1_1 y2.snd.snd))
                      (Y1_1 y2.snd.snd))
            (InI ((-1 : Int) - x1_0) ∧ K ((-1 : Int) - x1_0) x0_1 Y0_2 x0_3))
        id)
      (K (-1 : Int) x0_1 Y0_2 x0_3)
def P_Same (a : List (Int)) (b : List (Int)) (K : Bool → Prop) : Prop :=
  a.length ≤ (9223372036854775807 : Nat) →
    b.length ≤ (9223372036854775807 : Nat) →
      Cnd ((↑a.length : Int) = (↑b.length : Int))
        (Lp1
          (fun x2_0 Y2_1 =>
            a.length ≤ (9223372036854775807 : Nat) →
              Cnd (x2_0 < (↑a.length : Int))
                (((0 : Int) ≤ x2_0 ∧ x2_0 < (↑a.length : Int)) ∧
                  ∀ y4,
                    a[x2_0.toNat]? = some y4 →
                      ((0 : Int) ≤ x2_0 ∧ x2_0 < (↑b.length : Int)) ∧
                        ∀ y6,
                          b[x2_0.toNat]? = some y6 →
                            Cnd (y4 = y6) (InI (x2_0 + (1 : Int)) ∧ Y2_1 (x2_0 + (1 : Int))) (K false))
                (K true))
          (0 : Int))
        (K false)
def P_Mod (x : Int) (n : Int) (K : Int → Prop) : Prop :=
  n ≠ (0 : Int) ∧ Cnd (x.tmod n < (0 : Int)) (InI (x.tmod n + n) ∧ K (x.tmod n + n)) (K (x.tmod n))
def P_dNew (list : List (Int)) (most : Int) (K : List (Int) → Int → Prop) : Prop :=
  Jn1 (fun x0_0 => K x0_0 (0 : Int)) fun Y0_0 =>
    list.length ≤ (9223372036854775807 : Nat) →
      Cnd (most < (↑list.length : Int))
        (((0 : Int) ≤ (0 : Int) ∧ (0 : Int) ≤ most ∧ most ≤ (↑list.length : Int)) ∧
          Y0_0 (List.drop (Int.toNat (0 : Int)) (List.take most.toNat list)))
        (Y0_0 list)
def P_dLeft (list : List (Int)) (at_ : Int) (K : Bool → Int → Prop) : Prop :=
  list.length ≤ (9223372036854775807 : Nat) → K (decide (at_ < (↑list.length : Int))) at_
def P_dNext (list : List (Int)) (at_ : Int) (n : Int) (K : Int → Int → Prop) : Prop :=
  P_dLeft list at_ fun x0_0 x0_1 =>
    Cnd (x0_0 = true)
      (InI (x0_1 + (1 : Int)) ∧
        InI (x0_1 + (1 : Int) - (1 : Int)) ∧
          ((0 : Int) ≤ x0_1 + (1 : Int) - (1 : Int) ∧ x0_1 + (1 : Int) - (1 : Int) < (↑list.length : Int)) ∧
            ∀ y1,
              list[(x0_1 + (1 : Int) - (1 : Int)).toNat]? = some y1 →
                InI y1 ∧ n ≠ (0 : Int) ∧ K (y1.tmod n) (x0_1 + (1 : Int)))
      (K (0 : Int) x0_1)
def P_dWide (list : List (Int)) (at_ : Int) (n : Int) (K : Int → Int → Prop) : Prop :=
  P_dNext list at_ (256 : Int) fun x0_0 x0_1 =>
    InI ((256 : Int) * x0_0) ∧
      P_dNext list x0_1 (256 : Int) fun x1_0 x1_1 =>
        InI ((256 : Int) * x0_0 + x1_0) ∧ n ≠ (0 : Int) ∧ K (((256 : Int) * x0_0 + x1_0).tmod n) x1_1
def P_holds (n : Int) (K : List (Bool) → Prop) : Prop :=
  ((0 : Int) ≤ (6 : Int) ∧ (6 : Int) = (6 : Int) ∧ Sml (Int.toNat (6 : Int))) ∧
    ((List.replicate (Int.toNat (6 : Int)) false).length ≤ (9223372036854775807 : Nat) →
      Lp2
        (fun x1_0 x1_1 Y1_2 =>
          Cnd (x1_0 < (↑(List.replicate (Int.toNat (6 : Int)) false).length : Int))
            ((0 : Int) ≤ Go.IntKind.u64.wrap x1_0 ∧
              ((0 : Int) ≤ x1_0 ∧ x1_0 < (↑x1_1.length : Int)) ∧
                ∀ y2,
                  x1_1[x1_0.toNat]? = some y2 →
                    InI (x1_0 + (1 : Int)) ∧
                      Y1_2 (x1_0 + (1 : Int))
                        (x1_1.set x1_0.toNat
                          (decide
                            (Go.IntKind.i64.wrap
                                (↑(BitVec.ofInt (64 : Nat)
                                          (n.fdiv ((2 : Int) ^ Min.min (Go.IntKind.u64.wrap x1_0).toNat (64 : Nat))) &&&
                                        BitVec.ofInt (64 : Nat) (1 : Int)).toNat :
                                  Int) =
                              (1 : Int)))))
            (K x1_1))
        (0 : Int) (List.replicate (Int.toNat (6 : Int)) false))
def P_pLeaf (ns : List (Int × Int × Int)) (ids : (Int × Int × Int → Option (Int))) (full : Bool) (n : Int) (K : Int → List (Int × Int × Int) → (Int × Int × Int → Option (Int)) → Bool → Prop) : Prop :=
  Cnd (n < (0 : Int)) (K (-1002 : Int) ns ids full)
    (Cnd ((1000 : Int) < n) (K (-1002 : Int) ns ids full)
      (InI ((-1 : Int) - n) ∧ K ((-1 : Int) - n) ns ids full))
def P_pvalid (ns : List (Int × Int × Int)) (ids : (Int × Int × Int → Option (Int))) (full : Bool) (id : Int) (K : Bool → List (Int × Int × Int) → (Int × Int × Int → Option (Int)) → Bool → Prop) : Prop :=
  Cnd ((-1002 : Int) < id)
    (ns.length ≤ (9223372036854775807 : Nat) → K (decide (id < (↑ns.length : Int))) ns ids full)
    (K false ns ids full)
def P_ptest (ns : List (Int × Int × Int)) (ids : (Int × Int × Int → Option (Int))) (full : Bool) (id : Int) (K : Int → List (Int × Int × Int) → (Int × Int × Int → Option (Int)) → Bool → Prop) : Prop :=
  Cnd (id < (0 : Int)) (K (1001 : Int) ns ids full)
    (((0 : Int) ≤ id ∧ id < (↑ns.length : Int)) ∧ ∀ y0, ns[id.toNat]? = some y0 → K y0.fst ns ids full)
def P_pNode (ns : List (Int × Int × Int)) (ids : (Int × Int × Int → Option (Int))) (full : Bool) (test : Int) (yes : Int) (no : Int) (K : Int → List (Int × Int × Int) → (Int × Int × Int → Option (Int)) → Bool → Prop) : Prop :=
  Cnd (test < (0 : Int)) (K (-1002 : Int) ns ids full)
    (Cnd ((1000 : Int) < test) (K (-1002 : Int) ns ids full)
      (P_pvalid ns ids full yes fun x0_0 x0_1 Y0_2 x0_3 =>
        Cnd (x0_0 = true)
          (P_pvalid x0_1 Y0_2 x0_3 no fun x1_0 x1_1 Y1_2 x1_3 =>
            Cnd (x1_0 = true)
              (P_ptest x1_1 Y1_2 x1_3 yes fun x2_0 x2_1 Y2_2 x2_3 =>
                Cnd (x2_0 ≤ test) (K (-1002 : Int) x2_1 Y2_2 x2_3)
                  (P_ptest x2_1 Y2_2 x2_3 no fun x3_0 x3_1 Y3_2 x3_3 =>
                    Cnd (x3_0 ≤ test) (K (-1002 : Int) x3_1 Y3_2 x3_3)
                      (Cnd (yes = no) (K yes x3_1 Y3_2 x3_3)
                        (Cnd ((Y3_2 (test, yes, no)).isSome = true)
                          (K ((Y3_2 (test, yes, no)).getD (0 : Int)) x3_1 Y3_2 x3_3)
                          (x3_1.length ≤ (9223372036854775807 : Nat) →
                            Cnd ((4000 : Int) ≤ (↑x3_1.length : Int)) (K (-1002 : Int) x3_1 Y3_2 true)
                              (Sml (x3_1 ++ [(test, yes, no)]).length ∧
                                ((x3_1 ++ [(test, yes, no)]).length ≤ (9223372036854775807 : Nat) →
                                  InI ((↑(x3_1 ++ [(test, yes, no)]).length : Int) - (1 : Int)) ∧
                                    ((x3_1 ++ [(test, yes, no)]).length ≤ (9223372036854775807 : Nat) →
                                      InI ((↑(x3_1 ++ [(test, yes, no)]).length : Int) - (1 : Int)) ∧
                                        K ((↑(x3_1 ++ [(test, yes, no)]).length : Int) - (1 : Int))
                                          (x3_1 ++ [(test, yes, no)])
                                          (put Y3_2 (test, yes, no)
                                            ((↑(x3_1 ++ [(test, yes, no)]).length : Int) - (1 : Int)))
                                          x3_3))))))))
              (K (-1002 : Int) x1_1 Y1_2 x1_3))
          (K (-1002 : Int) x0_1 Y0_2 x0_3)))
def P_leaf (id : Int) (K : Int → Bool → Prop) : Prop :=
  InI ((-1 : Int) - id) ∧
    Cnd (id < (0 : Int)) (K ((-1 : Int) - id) (decide ((-1002 : Int) < id)))
      (K ((-1 : Int) - id) false)
def P_pcof (ns : List (Int × Int × Int)) (ids : (Int × Int × Int → Option (Int))) (full : Bool) (id : Int) (test : Int) (K : Int → Int → List (Int × Int × Int) → (Int × Int × Int → Option (Int)) → Bool → Prop) : Prop :=
  P_ptest ns ids full id fun x0_0 x0_1 Y0_2 x0_3 =>
    Cnd (x0_0 = test)
      (((0 : Int) ≤ id ∧ id < (↑x0_1.length : Int)) ∧
        ∀ y1,
          x0_1[id.toNat]? = some y1 →
            ((0 : Int) ≤ id ∧ id < (↑x0_1.length : Int)) ∧
              ∀ y3, x0_1[id.toNat]? = some y3 → K y1.snd.fst y3.snd.snd x0_1 Y0_2 x0_3)
      (K id id x0_1 Y0_2 x0_3)
def S_pchoose (X : List (Int × Int × Int) → (Int × Int × Int → Option (Int)) → Bool → Int → Int → Int → (Int × Int × Int → Option (Int)) → (Int → List (Int × Int × Int) → (Int × Int × Int → Option (Int)) → Bool → (Int × Int × Int → Option (Int)) → Prop) → Prop) (ns : List (Int × Int × Int)) (ids : (Int × Int × Int → Option (Int))) (full : Bool) (f : Int) (g : Int) (h : Int) (memory : (Int × Int × Int → Option (Int))) (K : Int → List (Int × Int × Int) → (Int × Int × Int → Option (Int)) → Bool → (Int × Int × Int → Option (Int)) → Prop) : Prop :=
  P_leaf f fun x0_0 x0_1 =>
    Cnd (x0_1 = true) (Cnd (x0_0 = (1 : Int)) (K g ns ids full memory) (K h ns ids full memory))
      (Cnd (g = h) (K g ns ids full memory)
        (Cnd ((memory (f, g, h)).isSome = true) (K ((memory (f, g, h)).getD (0 : Int)) ns ids full memory)
          (P_ptest ns ids full f fun x1_0 x1_1 Y1_2 x1_3 =>
            P_ptest x1_1 Y1_2 x1_3 g fun x2_0 x2_1 Y2_2 x2_3 =>
              P_ptest x2_1 Y2_2 x2_3 h fun x3_0 x3_1 Y3_2 x3_3 =>
                P_pcof x3_1 Y3_2 x3_3 f (Min.min (Min.min x1_0 x2_0) x3_0) fun x4_0 x4_1 x4_2 Y4_3 x4_4 =>
                  P_pcof x4_2 Y4_3 x4_4 g (Min.min (Min.min x1_0 x2_0) x3_0) fun x5_0 x5_1 x5_2 Y5_3 x5_4 =>
                    P_pcof x5_2 Y5_3 x5_4 h (Min.min (Min.min x1_0 x2_0) x3_0) fun x6_0 x6_1 x6_2 Y6_3 x6_4 =>
                      X x6_2 Y6_3 x6_4 x4_0 x5_0 x6_0 memory fun x7_0 x7_1 Y7_2 x7_3 Y7_4 =>
                        Cnd (x7_0 = (-1002 : Int)) (K (-1002 : Int) x7_1 Y7_2 x7_3 Y7_4)
                          (X x7_1 Y7_2 x7_3 x4_1 x5_1 x6_1 Y7_4 fun x8_0 x8_1 Y8_2 x8_3 Y8_4 =>
                            Cnd (x8_0 = (-1002 : Int)) (K (-1002 : Int) x8_1 Y8_2 x8_3 Y8_4)
                              (P_pNode x8_1 Y8_2 x8_3 (Min.min (Min.min x1_0 x2_0) x3_0) x7_0 x8_0
                                fun x9_0 x9_1 Y9_2 x9_3 => K x9_0 x9_1 Y9_2 x9_3 (put Y8_4 (f, g, h) x9_0))))))
def P_pchoose (ns : List (Int × Int × Int)) (ids : (Int × Int × Int → Option (Int))) (full : Bool) (f : Int) (g : Int) (h : Int) (memory : (Int × Int × Int → Option (Int))) (K : Int → List (Int × Int × Int) → (Int × Int × Int → Option (Int)) → Bool → (Int × Int × Int → Option (Int)) → Prop) : Prop := ∀ (X : List (Int × Int × Int) → (Int × Int × Int → Option (Int)) → Bool → Int → Int → Int → (Int × Int × Int → Option (Int)) → (Int → List (Int × Int × Int) → (Int × Int × Int → Option (Int)) → Bool → (Int × Int × Int → Option (Int)) → Prop) → Prop), (∀ (ns : List (Int × Int × Int)) (ids : (Int × Int × Int → Option (Int))) (full : Bool) (f : Int) (g : Int) (h : Int) (memory : (Int × Int × Int → Option (Int))) (K : Int → List (Int × Int × Int) → (Int × Int × Int → Option (Int)) → Bool → (Int × Int × Int → Option (Int)) → Prop), S_pchoose X ns ids full f g h memory K → X ns ids full f g h memory K) → X ns ids full f g h memory K
def P_pRun (ns : List (Int × Int × Int)) (ids : (Int × Int × Int → Option (Int))) (full : Bool) (id : Int) (holds : List (Bool)) (K : Int → List (Int × Int × Int) → (Int × Int × Int → Option (Int)) → Bool → Prop) : Prop :=
  P_pvalid ns ids full id fun x0_0 x0_1 Y0_2 x0_3 =>
    Cnd (x0_0 = true)
      (Lp1
        (fun x1_0 Y1_1 =>
          Cnd ((0 : Int) ≤ x1_0)
            (((0 : Int) ≤ x1_0 ∧ x1_0 < (↑x0_1.length : Int)) ∧
              ∀ y2,
                x0_1[x1_0.toNat]? = some y2 →
                  holds.length ≤ (9223372036854775807 : Nat) →
                    Cnd (y2.fst < (↑holds.length : Int))
                      (((0 : Int) ≤ y2.fst ∧ y2.fst < (↑holds.length : Int)) ∧
                        ∀ y5,
                          holds[y2.fst.toNat]? = some y5 →
                            Cnd (y5 = true) (Y1_1 y2.snd.fst) (Y1_1 y2.snd.snd))
                      (Y1_1 y2.snd.snd))
            (InI ((-1 : Int) - x1_0) ∧ K ((-1 : Int) - x1_0) x0_1 Y0_2 x0_3))
        id)
      (K (-1 : Int) x0_1 Y0_2 x0_3)
def P_pAt (ns : List (Int × Int × Int)) (ids : (Int × Int × Int → Option (Int))) (full : Bool) (id : Int) (K : Int × Int × Int → Bool → List (Int × Int × Int) → (Int × Int × Int → Option (Int)) → Bool → Prop) : Prop :=
  Cnd (id < (0 : Int)) (K ((0 : Int), (0 : Int), (0 : Int)) false ns ids full)
    (ns.length ≤ (9223372036854775807 : Nat) →
      Cnd ((↑ns.length : Int) ≤ id) (K ((0 : Int), (0 : Int), (0 : Int)) false ns ids full)
        (((0 : Int) ≤ id ∧ id < (↑ns.length : Int)) ∧
          ∀ y1, ns[id.toNat]? = some y1 → K (y1.fst, y1.snd.fst, y1.snd.snd) true ns ids full))
def P_pFull (ns : List (Int × Int × Int)) (ids : (Int × Int × Int → Option (Int))) (full : Bool) (K : Bool → List (Int × Int × Int) → (Int × Int × Int → Option (Int)) → Bool → Prop) : Prop :=
  K full ns ids full
def P_pNew  (K : List (Int × Int × Int) → (Int × Int × Int → Option (Int)) → Bool → Prop) : Prop :=
  K [] (fun _ => none) false
def P_add (pns : List (Int × Int × Int)) (pids : (Int × Int × Int → Option (Int))) (pfull : Bool) (rns : List (Int × Int × Int)) (rids : (Int × Int × Int → Option (Int))) (rfull : Bool) (all : List (Int × Int)) (same : Bool) (p : Int) (r : Int) (K : List (Int × Int × Int) → (Int × Int × Int → Option (Int)) → Bool → List (Int × Int × Int) → (Int × Int × Int → Option (Int)) → Bool → List (Int × Int) → Bool → Prop) : Prop :=
  Jn1
    (fun x0_0 =>
      Cnd (p = (-1002 : Int)) (K pns pids pfull rns rids rfull all x0_0)
        (Cnd (r = (-1002 : Int)) (K pns pids pfull rns rids rfull all x0_0)
          (Cnd (x0_0 = true)
            (LpH
              (fun x1_0 Y1_1 =>
                Cnd (x1_0.fst < (64 : Int))
                  (P_holds x1_0.fst fun x2_0 =>
                    P_pRun x1_0.snd.snd.fst x1_0.snd.snd.snd.snd.snd.snd.fst x1_0.snd.snd.snd.fst p x2_0
                      fun x3_0 x3_1 Y3_2 x3_3 =>
                      P_rRun x1_0.snd.snd.snd.snd.fst x1_0.snd.snd.snd.snd.snd.snd.snd.fst
                        x1_0.snd.snd.snd.snd.snd.fst r x2_0 fun x4_0 x4_1 Y4_2 x4_3 =>
                        Cnd (x3_0 = x4_0)
                          (InI (x1_0.fst + (1 : Int)) ∧
                            Y1_1 (x1_0.fst + (1 : Int), x1_0.snd.fst, x3_1, x3_3, x4_1, x4_3, Y3_2, Y4_2, ()))
                          (InI (x1_0.fst + (1 : Int)) ∧
                            Y1_1 (x1_0.fst + (1 : Int), false, x3_1, x3_3, x4_1, x4_3, Y3_2, Y4_2, ())))
                  (Sml (all ++ [(p, r)]).length ∧
                    K x1_0.snd.snd.fst x1_0.snd.snd.snd.snd.snd.snd.fst x1_0.snd.snd.snd.fst x1_0.snd.snd.snd.snd.fst
                      x1_0.snd.snd.snd.snd.snd.snd.snd.fst x1_0.snd.snd.snd.snd.snd.fst (all ++ [(p, r)]) x1_0.snd.fst))
              ((0 : Int), x0_0, pns, pfull, rns, rfull, pids, rids, ()))
            (K pns pids pfull rns rids rfull all x0_0))))
    fun Y0_0 =>
    Cnd (decide (p = (-1002 : Int)) = decide (r = (-1002 : Int))) (Y0_0 same) (Y0_0 false)
def P_preach (ns : List (Int × Int × Int)) (ids : (Int × Int × Int → Option (Int))) (full : Bool) (id : Int) (K : (Int → Option (Bool)) → List (Int × Int × Int) → (Int × Int × Int → Option (Int)) → Bool → Prop) : Prop :=
  P_pvalid ns ids full id fun x0_0 x0_1 Y0_2 x0_3 =>
    Cnd (x0_0 = true)
      (RecH
        (fun Y1_0 x1_1 x1_2 Y1_3 =>
          Cnd ((x1_2.snd.fst x1_2.fst).getD false = true) (Y1_3 (x1_2.snd.fst, ()))
            (Cnd ((0 : Int) ≤ x1_2.fst)
              (((0 : Int) ≤ x1_2.fst ∧ x1_2.fst < (↑x0_1.length : Int)) ∧
                ∀ y2,
                  x0_1[x1_2.fst.toNat]? = some y2 →
                    Y1_0 (x1_1 + (2 : Nat) + (1 : Nat)) (y2.snd.fst, put x1_2.snd.fst x1_2.fst true, ())
                      fun x4_0 =>
                      ((0 : Int) ≤ x1_2.fst ∧ x1_2.fst < (↑x0_1.length : Int)) ∧
                        ∀ y5,
                          x0_1[x1_2.fst.toNat]? = some y5 →
                            Y1_0 (x1_1 + (2 : Nat) + (1 : Nat) + (1 : Nat)) (y5.snd.snd, x4_0.fst, ()) fun x7_0 =>
                              Y1_3 (x7_0.fst, ()))
              (Y1_3 (put x1_2.snd.fst x1_2.fst true, ()))))
        ((0 : Nat) + (1 : Nat) + (1 : Nat) + (1 : Nat) + (1 : Nat) + (1 : Nat) + (1 : Nat) + (1 : Nat) + (1 : Nat) +
            (1 : Nat) +
          (1 : Nat))
        (id, fun _ => none, ()) fun x1_0 => K x1_0.fst x0_1 Y0_2 x0_3)
      (K (fun _ => none) x0_1 Y0_2 x0_3)
def P_pSize (ns : List (Int × Int × Int)) (ids : (Int × Int × Int → Option (Int))) (full : Bool) (id : Int) (K : Int → List (Int × Int × Int) → (Int × Int × Int → Option (Int)) → Bool → Prop) : Prop :=
  P_preach ns ids full id fun Y0_0 x0_1 Y0_2 x0_3 =>
    ∀ ks1,
      Keys Y0_0 ks1 →
        Lp2
          (fun x3_0 x3_1 Y3_2 =>
            (AllIn x3_1.fst x3_1.snd → K x3_0 x0_1 Y0_2 x0_3) ∧
              ∀ k4,
                ∀ y5,
                  x3_1.fst k4 = some y5 →
                    NotIn k4 x3_1.snd →
                      Cnd ((0 : Int) ≤ k4)
                        (InI (x3_0 + (1 : Int)) ∧ Y3_2 (x3_0 + (1 : Int)) (x3_1.fst, k4 :: x3_1.snd))
                        (Y3_2 x3_0 (x3_1.fst, k4 :: x3_1.snd)))
          (0 : Int) (Y0_0, [])
def P_pLeaves (ns : List (Int × Int × Int)) (ids : (Int × Int × Int → Option (Int))) (full : Bool) (id : Int) (K : List (Int) → List (Int × Int × Int) → (Int × Int × Int → Option (Int)) → Bool → Prop) : Prop :=
  P_preach ns ids full id fun F ns1 ids1 full1 => (∀ ks : List Int, Keys F ks → Sml ks.length) ∧ (∀ x, (F x).isSome = true → InI x) ∧ ∀ l : List Int, l.Pairwise (· < ·) → (∀ n, n ∈ l ↔ 0 ≤ n ∧ (F (-1 - n)).isSome = true) → K l ns1 ids1 full1
def P_pcond (ns : List (Int × Int × Int)) (ids : (Int × Int × Int → Option (Int))) (full : Bool) (id : Int) (K : Bool → List (Int × Int × Int) → (Int × Int × Int → Option (Int)) → Bool → Prop) : Prop :=
  P_pvalid ns ids full id fun x0_0 x0_1 Y0_2 x0_3 =>
    Cnd (x0_0 = true)
      (P_pLeaves x0_1 Y0_2 x0_3 id fun x1_0 x1_1 Y1_2 x1_3 =>
        x1_0.length ≤ (9223372036854775807 : Nat) →
          Lp1
            (fun x3_0 Y3_1 =>
              Cnd (x3_0 < (↑x1_0.length : Int))
                (((0 : Int) ≤ x3_0 ∧ x3_0 < (↑x1_0.length : Int)) ∧
                  ∀ y4,
                    x1_0[x3_0.toNat]? = some y4 →
                      Cnd ((1 : Int) < y4)
                        (K
                          (match decide ((0 : Int) ≤ x3_0) with
                          | true => false
                          | false => true)
                          x1_1 Y1_2 x1_3)
                        (InI (x3_0 + (1 : Int)) ∧ Y3_1 (x3_0 + (1 : Int))))
                (K true x1_1 Y1_2 x1_3))
            (0 : Int))
      (K false x0_1 Y0_2 x0_3)
def P_pChoose (ns : List (Int × Int × Int)) (ids : (Int × Int × Int → Option (Int))) (full : Bool) (f : Int) (g : Int) (h : Int) (K : Int → List (Int × Int × Int) → (Int × Int × Int → Option (Int)) → Bool → Prop) : Prop :=
  P_pcond ns ids full f fun x0_0 x0_1 Y0_2 x0_3 =>
    Cnd (x0_0 = true)
      (P_pvalid x0_1 Y0_2 x0_3 g fun x1_0 x1_1 Y1_2 x1_3 =>
        Cnd (x1_0 = true)
          (P_pvalid x1_1 Y1_2 x1_3 h fun x2_0 x2_1 Y2_2 x2_3 =>
            Cnd (x2_0 = true)
              (P_pchoose x2_1 Y2_2 x2_3 f g h (fun _ => none) fun x3_0 x3_1 Y3_2 x3_3 _ =>
                K x3_0 x3_1 Y3_2 x3_3)
              (K (-1002 : Int) x2_1 Y2_2 x2_3))
          (K (-1002 : Int) x1_1 Y1_2 x1_3))
      (K (-1002 : Int) x0_1 Y0_2 x0_3)
def P_pAnd (ns : List (Int × Int × Int)) (ids : (Int × Int × Int → Option (Int))) (full : Bool) (f : Int) (g : Int) (K : Int → List (Int × Int × Int) → (Int × Int × Int → Option (Int)) → Bool → Prop) : Prop :=
  P_pcond ns ids full g fun x0_0 x0_1 Y0_2 x0_3 =>
    Cnd (x0_0 = true)
      (P_pLeaf x0_1 Y0_2 x0_3 (0 : Int) fun x1_0 x1_1 Y1_2 x1_3 =>
        P_pChoose x1_1 Y1_2 x1_3 f g x1_0 fun x2_0 x2_1 Y2_2 x2_3 => K x2_0 x2_1 Y2_2 x2_3)
      (K (-1002 : Int) x0_1 Y0_2 x0_3)
def P_pOr (ns : List (Int × Int × Int)) (ids : (Int × Int × Int → Option (Int))) (full : Bool) (f : Int) (g : Int) (K : Int → List (Int × Int × Int) → (Int × Int × Int → Option (Int)) → Bool → Prop) : Prop :=
  P_pcond ns ids full g fun x0_0 x0_1 Y0_2 x0_3 =>
    Cnd (x0_0 = true)
      (P_pLeaf x0_1 Y0_2 x0_3 (1 : Int) fun x1_0 x1_1 Y1_2 x1_3 =>
        P_pChoose x1_1 Y1_2 x1_3 f x1_0 g fun x2_0 x2_1 Y2_2 x2_3 => K x2_0 x2_1 Y2_2 x2_3)
      (K (-1002 : Int) x0_1 Y0_2 x0_3)
def P_pNot (ns : List (Int × Int × Int)) (ids : (Int × Int × Int → Option (Int))) (full : Bool) (f : Int) (K : Int → List (Int × Int × Int) → (Int × Int × Int → Option (Int)) → Bool → Prop) : Prop :=
  P_pLeaf ns ids full (0 : Int) fun x0_0 x0_1 Y0_2 x0_3 =>
    P_pLeaf x0_1 Y0_2 x0_3 (1 : Int) fun x1_0 x1_1 Y1_2 x1_3 =>
      P_pChoose x1_1 Y1_2 x1_3 f x0_0 x1_0 fun x2_0 x2_1 Y2_2 x2_3 => K x2_0 x2_1 Y2_2 x2_3
def P_awake  (K : Bool → Prop) : Prop :=
  P_pNew fun x0_0 Y0_1 x0_2 =>
    P_pNode x0_0 Y0_1 x0_2 (3 : Int) (-2 : Int) (-1 : Int) fun x1_0 x1_1 Y1_2 x1_3 =>
      P_pNot x1_1 Y1_2 x1_3 x1_0 fun x2_0 x2_1 Y2_2 x2_3 =>
        Cnd (x1_0 = (0 : Int))
          (Cnd (x2_0 = (1 : Int))
            (P_pAnd x2_1 Y2_2 x2_3 x1_0 x1_0 fun x3_0 x3_1 Y3_2 x3_3 =>
              Cnd (x3_0 = (0 : Int))
                (P_pRun x3_1 Y3_2 x3_3 x1_0 [false, false, false, true] fun x4_0 x4_1 Y4_2 x4_3 =>
                  Cnd (x4_0 = (1 : Int))
                    (P_pRun x4_1 Y4_2 x4_3 x2_0 [] fun x5_0 x5_1 Y5_2 x5_3 =>
                      Cnd (x5_0 = (1 : Int))
                        (P_pLeaf x5_1 Y5_2 x5_3 (2 : Int) fun x6_0 x6_1 Y6_2 x6_3 =>
                          Cnd (x6_0 = (-3 : Int))
                            (P_pSize x6_1 Y6_2 x6_3 x1_0 fun x7_0 _ _ _ =>
                              K (decide (x7_0 = (1 : Int))))
                            (K false))
                        (K false))
                    (K false))
                (K false))
            (K false))
          (K false)
def P_rSize (ns : List (Int × Int × Int)) (ids : (Int × Int × Int → Option (Int))) (full : Bool) (id : Int) (K : Int → List (Int × Int × Int) → (Int × Int × Int → Option (Int)) → Bool → Prop) : Prop :=
  P_ris ns ids full id fun x0_0 x0_1 Y0_2 x0_3 =>
    Cnd (x0_0 = true)
      (P_rreach x0_1 Y0_2 x0_3 id fun Y1_0 x1_1 Y1_2 x1_3 =>
        ∀ ks2,
          Keys Y1_0 ks2 →
            Lp2
              (fun x4_0 x4_1 Y4_2 =>
                (AllIn x4_1.fst x4_1.snd → K x4_0 x1_1 Y1_2 x1_3) ∧
                  ∀ k5,
                    ∀ y6,
                      x4_1.fst k5 = some y6 →
                        NotIn k5 x4_1.snd →
                          Cnd ((0 : Int) ≤ k5)
                            (InI (x4_0 + (1 : Int)) ∧ Y4_2 (x4_0 + (1 : Int)) (x4_1.fst, k5 :: x4_1.snd))
                            (Y4_2 x4_0 (x4_1.fst, k5 :: x4_1.snd)))
              (0 : Int) (Y1_0, []))
      (K (0 : Int) x0_1 Y0_2 x0_3)
def P_lFull (more : Int) (K : Bool → Prop) : Prop :=
  P_awake fun x0_0 =>
    Cnd (x0_0 = true)
      (P_pNew fun x1_0 Y1_1 x1_2 =>
        Lp5
          (fun x2_0 x2_1 x2_2 x2_3 Y2_4 Y2_5 =>
            Cnd ((0 : Int) ≤ x2_1)
              (Cnd (x2_0 < (4000 : Int))
                (Lp5
                  (fun x3_0 x3_1 x3_2 x3_3 Y3_4 Y3_5 =>
                    Cnd (x3_1 < (8 : Int))
                      (Cnd (x3_0 < (4000 : Int))
                        (InI ((-1 : Int) - x3_1) ∧
                          P_pNode x3_2 Y3_4 x3_3 x2_1 ((-1 : Int) - x3_1) (-1 : Int) fun x4_0 x4_1 Y4_2 x4_3 =>
                            Cnd (x4_0 = x3_0)
                              (InI (x3_0 + (1 : Int)) ∧
                                InI (x3_1 + (1 : Int)) ∧ Y3_5 (x3_0 + (1 : Int)) (x3_1 + (1 : Int)) x4_1 x4_3 Y4_2)
                              (K false))
                        (InI (x2_1 - (1 : Int)) ∧ Y2_5 x3_0 (x2_1 - (1 : Int)) x3_2 x3_3 Y3_4))
                      (InI (x2_1 - (1 : Int)) ∧ Y2_5 x3_0 (x2_1 - (1 : Int)) x3_2 x3_3 Y3_4))
                  x2_0 (1 : Int) x2_2 x2_3 Y2_4)
                (P_Mod more (4 : Int) fun x3_0 =>
                  P_pFull x2_2 Y2_4 x2_3 fun x4_0 x4_1 Y4_2 x4_3 =>
                    Cnd (x4_0 = true) (K false)
                      (P_pNode x4_1 Y4_2 x4_3 (1000 : Int) (-2 : Int) (-1 : Int) fun x5_0 x5_1 Y5_2 x5_3 =>
                        Cnd (x5_0 = (0 : Int))
                          (Lp4
                            (fun x6_0 x6_1 x6_2 Y6_3 Y6_4 =>
                              Cnd (x6_0 < x3_0)
                                (InI ((-900 : Int) - x6_0) ∧
                                  P_pNode x6_1 Y6_3 x6_2 (0 : Int) ((-900 : Int) - x6_0) (-1 : Int)
                                    fun x7_0 x7_1 Y7_2 x7_3 =>
                                    Cnd (x7_0 = (-1002 : Int))
                                      (P_pFull x7_1 Y7_2 x7_3 fun x8_0 x8_1 Y8_2 x8_3 =>
                                        Cnd (x8_0 = true)
                                          (InI (x6_0 + (1 : Int)) ∧ Y6_4 (x6_0 + (1 : Int)) x8_1 x8_3 Y8_2)
                                          (K false))
                                      (K false))
                                (P_pFull x6_1 Y6_3 x6_2 fun x7_0 x7_1 Y7_2 x7_3 =>
                                  Cnd (x7_0 = decide ((0 : Int) < x3_0))
                                    (P_pRun x7_1 Y7_2 x7_3 (0 : Int) [] fun x8_0 _ _ _ =>
                                      K (decide (x8_0 = (0 : Int))))
                                    (K false)))
                            (0 : Int) x5_1 x5_3 Y5_2)
                          (K false))))
              (P_Mod more (4 : Int) fun x3_0 =>
                P_pFull x2_2 Y2_4 x2_3 fun x4_0 x4_1 Y4_2 x4_3 =>
                  Cnd (x4_0 = true) (K false)
                    (P_pNode x4_1 Y4_2 x4_3 (1000 : Int) (-2 : Int) (-1 : Int) fun x5_0 x5_1 Y5_2 x5_3 =>
                      Cnd (x5_0 = (0 : Int))
                        (Lp4
                          (fun x6_0 x6_1 x6_2 Y6_3 Y6_4 =>
                            Cnd (x6_0 < x3_0)
                              (InI ((-900 : Int) - x6_0) ∧
                                P_pNode x6_1 Y6_3 x6_2 (0 : Int) ((-900 : Int) - x6_0) (-1 : Int)
                                  fun x7_0 x7_1 Y7_2 x7_3 =>
                                  Cnd (x7_0 = (-1002 : Int))
                                    (P_pFull x7_1 Y7_2 x7_3 fun x8_0 x8_1 Y8_2 x8_3 =>
                                      Cnd (x8_0 = true)
                                        (InI (x6_0 + (1 : Int)) ∧ Y6_4 (x6_0 + (1 : Int)) x8_1 x8_3 Y8_2)
                                        (K false))
                                    (K false))
                              (P_pFull x6_1 Y6_3 x6_2 fun x7_0 x7_1 Y7_2 x7_3 =>
                                Cnd (x7_0 = decide ((0 : Int) < x3_0))
                                  (P_pRun x7_1 Y7_2 x7_3 (0 : Int) [] fun x8_0 _ _ _ =>
                                    K (decide (x8_0 = (0 : Int))))
                                  (K false)))
                          (0 : Int) x5_1 x5_3 Y5_2)
                        (K false))))
          (0 : Int) (1000 : Int) x1_0 x1_2 Y1_1)
      (K false)

end Go.Dg5
