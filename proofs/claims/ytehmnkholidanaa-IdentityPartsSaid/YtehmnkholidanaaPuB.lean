/- Plain meanings of functions: ref26_Root, ref26_Same, ref26_Forest, law26_awake. -/
import Derived.Test.YtehmnkholidanaaFlPure
import Derived.Test.YtehmnkholidanaaIdWrap
import Derived.Test.YtehmnkholidanaaPuA
namespace Go.Fl
def P_ref26_Root (l_p : (List Lk.L3)) (id_p : ByteArray) (K : ByteArray → Prop) : Prop :=
  Jn1 (fun (r1_ : (List ByteArray)) => ∃ x1_, r1_[0]? = some x1_ ∧ K x1_) (P_ref26_Members l_p id_p)

def P_ref26_Same (l_p : (List Lk.L3)) (a_p : ByteArray) (b_p : ByteArray) (K : Bool → Prop) : Prop :=
  Jn1 (fun (r1_ : (List ByteArray)) => Jn1 (fun (r2_ : Bool) => K (r2_)) (P_ref1_Has r1_ b_p)) (P_ref26_Members l_p a_p)

def P_ref26_Forest (l_p : (List Lk.L3)) (K : (List Lk.L3) → Prop) : Prop :=
  Lp2 (fun (out_2 : (List Lk.L3)) (i_2 : Nat) Y1 => ∀ (_ : l_p.length ≤ 9223372036854775807), Cnd (((i_2 : Nat) : Int) < ((l_p.length : Nat) : Int)) (∀ x1_, l_p[i_2]? = some x1_ → Jn1 (fun (r1_ : Bool) => Cnd (r1_ = true) (Y1 out_2 (i_2 + 1)) (Sml (out_2 ++ [x1_]).length ∧ Y1 (out_2 ++ [x1_]) (i_2 + 1))) (P_ref26_Same out_2 x1_.1 x1_.2.1)) (K out_2)) [] 0

def P_law26_awake (K : Bool → Prop) : Prop :=
  Jn2 (fun (r1_ : (List Lk.L3)) (r2_ : Bool) => Jn1 (fun (r3_ : (List ByteArray)) => Jn1 (fun (r4_ : Bool) => Cnd (r4_ = true) (Cnd (r2_ = true) (Jn1 (fun (r5_ : Bool) => K (r5_)) (P_ref26_SameLinks r1_ ([((⟨#[97]⟩ : ByteArray), (⟨#[98]⟩ : ByteArray), (0 : Int)), ((⟨#[98]⟩ : ByteArray), (⟨#[99]⟩ : ByteArray), (0 : Int))]))) (K false)) (K false)) (P_ref1_Same r3_ ([(⟨#[97]⟩ : ByteArray), (⟨#[98]⟩ : ByteArray), (⟨#[99]⟩ : ByteArray)]))) (P_identity_Members ([((⟨#[97]⟩ : ByteArray), (⟨#[98]⟩ : ByteArray), (0 : Int)), ((⟨#[98]⟩ : ByteArray), (⟨#[99]⟩ : ByteArray), (0 : Int))]) (⟨#[99]⟩ : ByteArray))) (P_identity_Path ([((⟨#[97]⟩ : ByteArray), (⟨#[98]⟩ : ByteArray), (0 : Int)), ((⟨#[98]⟩ : ByteArray), (⟨#[99]⟩ : ByteArray), (0 : Int))]) (⟨#[97]⟩ : ByteArray) (⟨#[99]⟩ : ByteArray))

end Go.Fl
