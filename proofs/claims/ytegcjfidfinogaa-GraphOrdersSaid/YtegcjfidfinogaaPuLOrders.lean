/- Plain meanings of functions: law10_GraphOrders. -/
import Derived.Test.YtegcjfidfinogaaFlPure
import Derived.Test.YtegcjfidfinogaaPuC
namespace Go.Fl
def P_law10_GraphOrders (n_p : Int) (turn_p : Int) (codes_p : (List UInt8)) (up_p : Bool) (raw_p : (List ByteArray)) (e_p : (List (ByteArray × ByteArray))) (K : Bool → Prop) : Prop :=
  Jn1 (fun (r1_ : Bool) => Cnd (r1_ = true) (∀ (_ : raw_p.length ≤ 9223372036854775807), Cnd ((12 : Int) < ((raw_p.length : Nat) : Int)) (K true) (∀ (_ : e_p.length ≤ 9223372036854775807), Cnd ((30 : Int) < ((e_p.length : Nat) : Int)) (K true) (Jn1 (fun (r2_ : (List ByteArray)) => Jn1 (fun (r3_ : (List (ByteArray × ByteArray))) => Sml r2_.length ∧ Sml (r2_ ++ raw_p).length ∧ Lp1 (fun (k_3 : Nat) Y4 => Cnd (((k_3 : Nat) : Int) < (3 : Int)) (∃ x1_, [r2_, raw_p, r2_ ++ raw_p][k_3]? = some x1_ ∧ Sml r3_.length ∧ Sml (r3_ ++ e_p).length ∧ Lp1 (fun (k_5 : Nat) Y5 => Cnd (((k_5 : Nat) : Int) < (3 : Int)) (∃ x2_, [r3_, e_p, r3_ ++ e_p][k_5]? = some x2_ ∧ Jn2 (fun (r4_ : (List ByteArray)) (r5_ : Int) => Jn2 (fun (r6_ : (List ByteArray)) (r7_ : Int) => Cnd (r5_ = r7_) (Jn1 (fun (r8_ : Bool) => Cnd (r8_ = true) (InI ((k_5 + 1 : Nat) : Int) ∧ Y5 (k_5 + 1)) (K false)) (P_ref1_Same r4_ r6_)) (K false)) (P_ref9_Order x1_ x2_)) (P_graph_Order x1_ x2_)) (InI ((k_3 + 1 : Nat) : Int) ∧ Y4 (k_3 + 1))) 0) (K true)) 0) (P_law10_edges r2_ codes_p (up_p))) (P_law10_nodes n_p turn_p)))) (K false)) (P_law10_awake)

end Go.Fl
