/- Plain meanings of functions: draw_Mod, draw_New, draw_Codes_Left, draw_Codes_Next, law10_awake, law10_nodes, law10_edges. -/
import Derived.Test.YtegcjfidfinogaaFlPure
import Derived.Test.YtegcjfidfinogaaPuB
namespace Go.Fl
def P_draw_Mod (x_p : Int) (n_p : Int) (K : Int → Prop) : Prop :=
  n_p ≠ 0 ∧ Cnd ((x_p.tmod n_p) < (0 : Int)) (InI ((x_p.tmod n_p) + n_p) ∧ K ((x_p.tmod n_p) + n_p)) (K (x_p.tmod n_p))

def P_draw_New (list_p : (List UInt8)) (most_p : Int) (K : (List UInt8 × Int) → Prop) : Prop :=
  ∀ (_ : list_p.length ≤ 9223372036854775807), Cnd (most_p < ((list_p.length : Nat) : Int)) (∃ j1_ : Nat, most_p = ((j1_ : Nat) : Int) ∧ j1_ ≤ list_p.length ∧ K ((list_p.take j1_), (0 : Int))) (K (list_p, (0 : Int)))

def P_draw_Codes_Left (c_p : (List UInt8 × Int)) (K : Bool → Prop) : Prop :=
  ∀ (_ : c_p.1.length ≤ 9223372036854775807), K (decide (c_p.2 < ((c_p.1.length : Nat) : Int)))

def P_draw_Codes_Next (c_p : (List UInt8 × Int)) (n_p : Int) (K : Int → (List UInt8 × Int) → Prop) : Prop :=
  Jn1 (fun (r1_ : Bool) => Cnd (r1_ = true) (InI (c_p.2 + (1 : Int)) ∧ InI ((c_p.2 + (1 : Int)) - (1 : Int)) ∧ ∃ j1_ : Nat, ((c_p.2 + (1 : Int)) - (1 : Int)) = ((j1_ : Nat) : Int) ∧ ∃ x1_, c_p.1[j1_]? = some x1_ ∧ n_p ≠ 0 ∧ K (((x1_.toNat : Nat) : Int).tmod n_p) (c_p.1, (c_p.2 + (1 : Int)))) (K (0 : Int) c_p)) (P_draw_Codes_Left c_p)

def P_law10_awake (K : Bool → Prop) : Prop :=
  Jn2 (fun (r1_ : (List ByteArray)) (r2_ : Int) => Cnd (r2_ = (0 : Int)) (Jn1 (fun (r3_ : Bool) => K (r3_)) (P_ref1_Same r1_ ([(⟨#[99]⟩ : ByteArray), (⟨#[97]⟩ : ByteArray), (⟨#[98]⟩ : ByteArray)]))) (K false)) (P_graph_Order ([(⟨#[97]⟩ : ByteArray), (⟨#[98]⟩ : ByteArray), (⟨#[99]⟩ : ByteArray)]) ([((⟨#[97]⟩ : ByteArray), (⟨#[99]⟩ : ByteArray)), ((⟨#[98]⟩ : ByteArray), (⟨#[97]⟩ : ByteArray))]))

def P_law10_nodes (n_p : Int) (turn_p : Int) (K : (List ByteArray) → Prop) : Prop :=
  Jn1 (fun (r1_ : Int) => ∃ j1_ : Nat, r1_ = ((j1_ : Nat) : Int) ∧ j1_ ≤ ([(⟨#[100]⟩ : ByteArray), (⟨#[97]⟩ : ByteArray), (⟨#[102]⟩ : ByteArray), (⟨#[98]⟩ : ByteArray), (⟨#[101]⟩ : ByteArray), (⟨#[99]⟩ : ByteArray), (⟨#[103]⟩ : ByteArray), (⟨#[]⟩ : ByteArray)]).length ∧ ∀ (_ : j1_ ≤ 9223372036854775807), Cnd (((j1_ : Nat) : Int) = (0 : Int)) (K []) (Jn1 (fun (r2_ : Int) => ∃ j2_ : Nat, r2_ = ((j2_ : Nat) : Int) ∧ j2_ ≤ (([(⟨#[100]⟩ : ByteArray), (⟨#[97]⟩ : ByteArray), (⟨#[102]⟩ : ByteArray), (⟨#[98]⟩ : ByteArray), (⟨#[101]⟩ : ByteArray), (⟨#[99]⟩ : ByteArray), (⟨#[103]⟩ : ByteArray), (⟨#[]⟩ : ByteArray)]).take j1_).length ∧ ∃ j3_ : Nat, r2_ = ((j3_ : Nat) : Int) ∧ j3_ ≤ (([(⟨#[100]⟩ : ByteArray), (⟨#[97]⟩ : ByteArray), (⟨#[102]⟩ : ByteArray), (⟨#[98]⟩ : ByteArray), (⟨#[101]⟩ : ByteArray), (⟨#[99]⟩ : ByteArray), (⟨#[103]⟩ : ByteArray), (⟨#[]⟩ : ByteArray)]).take j1_).length ∧ Sml ((([(⟨#[100]⟩ : ByteArray), (⟨#[97]⟩ : ByteArray), (⟨#[102]⟩ : ByteArray), (⟨#[98]⟩ : ByteArray), (⟨#[101]⟩ : ByteArray), (⟨#[99]⟩ : ByteArray), (⟨#[103]⟩ : ByteArray), (⟨#[]⟩ : ByteArray)]).take j1_).drop j2_).length ∧ Sml (((([(⟨#[100]⟩ : ByteArray), (⟨#[97]⟩ : ByteArray), (⟨#[102]⟩ : ByteArray), (⟨#[98]⟩ : ByteArray), (⟨#[101]⟩ : ByteArray), (⟨#[99]⟩ : ByteArray), (⟨#[103]⟩ : ByteArray), (⟨#[]⟩ : ByteArray)]).take j1_).drop j2_) ++ ((([(⟨#[100]⟩ : ByteArray), (⟨#[97]⟩ : ByteArray), (⟨#[102]⟩ : ByteArray), (⟨#[98]⟩ : ByteArray), (⟨#[101]⟩ : ByteArray), (⟨#[99]⟩ : ByteArray), (⟨#[103]⟩ : ByteArray), (⟨#[]⟩ : ByteArray)]).take j1_).take j3_)).length ∧ K (((([(⟨#[100]⟩ : ByteArray), (⟨#[97]⟩ : ByteArray), (⟨#[102]⟩ : ByteArray), (⟨#[98]⟩ : ByteArray), (⟨#[101]⟩ : ByteArray), (⟨#[99]⟩ : ByteArray), (⟨#[103]⟩ : ByteArray), (⟨#[]⟩ : ByteArray)]).take j1_).drop j2_) ++ ((([(⟨#[100]⟩ : ByteArray), (⟨#[97]⟩ : ByteArray), (⟨#[102]⟩ : ByteArray), (⟨#[98]⟩ : ByteArray), (⟨#[101]⟩ : ByteArray), (⟨#[99]⟩ : ByteArray), (⟨#[103]⟩ : ByteArray), (⟨#[]⟩ : ByteArray)]).take j1_).take j3_))) (P_draw_Mod turn_p ((j1_ : Nat) : Int)))) (P_draw_Mod n_p (9 : Int))

def P_law10_edges (l_p : (List ByteArray)) (codes_p : (List UInt8)) (up_p : Bool) (K : (List (ByteArray × ByteArray)) → Prop) : Prop :=
  Jn1 (fun (r1_ : (List UInt8 × Int)) => Lp2 (fun (out_3 : (List (ByteArray × ByteArray))) (b_2 : (List UInt8 × Int)) Y2 => Jn1 (fun (r2_ : Bool) => Cnd (r2_ = true) (∀ (_ : l_p.length ≤ 9223372036854775807), Cnd ((0 : Int) < ((l_p.length : Nat) : Int)) (Jn2 (fun (e_1 : (ByteArray × ByteArray)) (b_3 : (List UInt8 × Int)) => Cnd (up_p = true) (Sml (out_3 ++ [e_1]).length ∧ Y2 (out_3 ++ [e_1]) b_3) (Cnd (Lk.blt e_1.2 e_1.1) (Sml (out_3 ++ [e_1]).length ∧ Y2 (out_3 ++ [e_1]) b_3) (Y2 out_3 b_3))) (fun Y4 => Jn2 (fun (r3_ : Int) (q1_ : (List UInt8 × Int)) => ∃ j1_ : Nat, r3_ = ((j1_ : Nat) : Int) ∧ ∃ x1_, l_p[j1_]? = some x1_ ∧ Jn2 (fun (r4_ : Int) (q2_ : (List UInt8 × Int)) => ∃ j2_ : Nat, r4_ = ((j2_ : Nat) : Int) ∧ ∃ x2_, l_p[j2_]? = some x2_ ∧ Y4 (x1_, x2_) q2_) (P_draw_Codes_Next q1_ ((l_p.length : Nat) : Int))) (P_draw_Codes_Next b_2 ((l_p.length : Nat) : Int)))) (K out_3)) (K out_3)) (P_draw_Codes_Left b_2)) [] r1_) (P_draw_New codes_p (30 : Int))

end Go.Fl
