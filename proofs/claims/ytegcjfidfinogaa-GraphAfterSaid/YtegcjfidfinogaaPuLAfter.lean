/- Plain meanings of functions: law10_GraphAfter. -/
import Derived.Test.YtegcjfidfinogaaFlPure
import Derived.Test.YtegcjfidfinogaaPuC
namespace Go.Fl
def P_law10_GraphAfter (n_p : Int) (turn_p : Int) (codes_p : (List UInt8)) (K : Bool → Prop) : Prop :=
  Jn1 (fun (r1_ : Bool) => Cnd (r1_ = true) (Jn1 (fun (r2_ : (List ByteArray)) => Jn1 (fun (r3_ : (List (ByteArray × ByteArray))) => Jn2 (fun (r4_ : (List ByteArray)) (r5_ : Int) => Cnd (r5_ = (0 : Int)) (∀ (_ : r4_.length ≤ 9223372036854775807), ∀ (_ : r2_.length ≤ 9223372036854775807), Cnd (((r4_.length : Nat) : Int) = ((r2_.length : Nat) : Int)) (Lp1 (fun (i_3 : Nat) Y5 => Cnd (((i_3 : Nat) : Int) < ((r4_.length : Nat) : Int)) (∀ x1_, r4_[i_3]? = some x1_ → Jn1 (fun (r6_ : Bool) => Cnd (r6_ = true) (i_3 ≤ r4_.length ∧ Jn1 (fun (r7_ : Bool) => Cnd (r7_ = true) (K false) (Jn1 (fun (r8_ : (List ByteArray)) => Lp1 (fun (k_2 : Nat) Y9 => ∀ (_ : r8_.length ≤ 9223372036854775807), Cnd (((k_2 : Nat) : Int) < ((r8_.length : Nat) : Int)) (i_3 ≤ r4_.length ∧ ∀ x2_, r8_[k_2]? = some x2_ → Jn1 (fun (r9_ : Bool) => Cnd (r9_ = true) (Y9 (k_2 + 1)) (K false)) (P_ref1_Has (r4_.take i_3) x2_)) (Y5 (i_3 + 1))) 0) (P_graph_Needs r3_ x1_))) (P_ref1_Has (r4_.take i_3) x1_)) (K false)) (P_ref1_Has r2_ x1_)) (K true)) 0) (K false)) (K false)) (P_graph_Order r2_ r3_)) (P_law10_edges r2_ codes_p false)) (P_law10_nodes n_p turn_p)) (K false)) (P_law10_awake)

end Go.Fl
