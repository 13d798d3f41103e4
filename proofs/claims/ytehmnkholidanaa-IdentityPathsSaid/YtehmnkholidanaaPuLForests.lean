/- Plain meanings of functions: law26_IdentityForests. -/
import Derived.Test.YtehmnkholidanaaFlPure
import Derived.Test.YtehmnkholidanaaPuB
namespace Go.Fl
def P_law26_IdentityForests (l_p : (List UInt8)) (K : Bool → Prop) : Prop :=
  Jn1 (fun (r1_ : Bool) => Cnd (r1_ = true) (∀ (_ : l_p.length ≤ 9223372036854775807), Cnd ((60 : Int) < ((l_p.length : Nat) : Int)) (K true) (Jn1 (fun (r2_ : (List Lk.L3)) => Jn1 (fun (r3_ : (List Lk.L3)) => Jn1 (fun (r4_ : (List ByteArray)) => Lp2 (fun (roots_2 : Nat) (i_2 : Nat) Y5 => ∀ (_ : r4_.length ≤ 9223372036854775807), Cnd (((i_2 : Nat) : Int) < ((r4_.length : Nat) : Int)) (∀ x1_, r4_[i_2]? = some x1_ → Jn1 (fun (r5_ : ByteArray) => Cnd (r5_ = x1_) (InI ((roots_2 + 1 : Nat) : Int) ∧ Y5 (roots_2 + 1) (i_2 + 1)) (Y5 roots_2 (i_2 + 1))) (P_identity_Root r2_ x1_)) (∀ (_ : r3_.length ≤ 9223372036854775807), InI (((r4_.length : Nat) : Int) - ((roots_2 : Nat) : Int)) ∧ Cnd (((r3_.length : Nat) : Int) = (((r4_.length : Nat) : Int) - ((roots_2 : Nat) : Int))) (Jn1 (fun (r6_ : (List Lk.L3)) => Jn1 (fun (r7_ : Bool) => K (r7_)) (P_ref26_SameLinks r6_ r3_)) (P_identity_Forest r3_)) (K false))) 0 0) (P_data_Ids)) (P_identity_Forest r2_)) (P_data_Links l_p true))) (K false)) (P_law26_awake)

end Go.Fl
