/- Plain meanings of functions: ref1_Has, ref1_Same, ref1_Add, ref9_ready, ref9_Order, ref9_Needs, ref9_Cyclic, slices_Clone___string_string_, slices_Index___string_string_, slices_Contains___string_string_. -/
import Derived.Test.YtegcjfidfinogaaFlPure
namespace Go.Fl
def P_ref1_Has (l_p : (List ByteArray)) (s_p : ByteArray) (K : Bool → Prop) : Prop :=
  Lp1 (fun (i_2 : Nat) Y1 => ∀ (_ : l_p.length ≤ 9223372036854775807), Cnd (((i_2 : Nat) : Int) < ((l_p.length : Nat) : Int)) (∀ x1_, l_p[i_2]? = some x1_ → Cnd (x1_ = s_p) (K true) (Y1 (i_2 + 1))) (K false)) 0

def P_ref1_Same (a_p : (List ByteArray)) (b_p : (List ByteArray)) (K : Bool → Prop) : Prop :=
  ∀ (_ : a_p.length ≤ 9223372036854775807), ∀ (_ : b_p.length ≤ 9223372036854775807), Cnd (((a_p.length : Nat) : Int) = ((b_p.length : Nat) : Int)) (Lp1 (fun (i_2 : Nat) Y1 => Cnd (((i_2 : Nat) : Int) < ((a_p.length : Nat) : Int)) (∀ x1_, a_p[i_2]? = some x1_ → ∃ x2_, b_p[i_2]? = some x2_ ∧ Cnd (x1_ = x2_) (Y1 (i_2 + 1)) (K false)) (K true)) 0) (K false)

def P_ref1_Add (l_p : (List ByteArray)) (s_p : ByteArray) (K : (List ByteArray) → Prop) : Prop :=
  Jn1 (fun (i_1 : Nat) => Jn0 (i_1 ≤ l_p.length ∧ Sml (l_p.take i_1).length ∧ i_1 ≤ l_p.length ∧ Sml ((l_p.take i_1) ++ [s_p]).length ∧ Sml ((l_p.take i_1) ++ [s_p] ++ (l_p.drop i_1)).length ∧ K ((l_p.take i_1) ++ [s_p] ++ (l_p.drop i_1))) (fun Y3 => ∀ (_ : l_p.length ≤ 9223372036854775807), Cnd (((i_1 : Nat) : Int) < ((l_p.length : Nat) : Int)) (∀ x2_, l_p[i_1]? = some x2_ → Cnd (x2_ = s_p) (K l_p) (Y3)) (Y3))) (fun Y1 => Lp1 (fun (i_3 : Nat) Y2 => ∀ (_ : l_p.length ≤ 9223372036854775807), Cnd (((i_3 : Nat) : Int) < ((l_p.length : Nat) : Int)) (∀ x1_, l_p[i_3]? = some x1_ → Cnd (Lk.blt x1_ s_p) (Y2 (i_3 + 1)) (Y1 i_3)) (Y1 i_3)) 0)

def P_ref9_ready (order_p : (List ByteArray)) (edges_p : (List (ByteArray × ByteArray))) (node_p : ByteArray) (K : Bool → Prop) : Prop :=
  Lp1 (fun (i_2 : Nat) Y1 => ∀ (_ : edges_p.length ≤ 9223372036854775807), Cnd (((i_2 : Nat) : Int) < ((edges_p.length : Nat) : Int)) (∀ x1_, edges_p[i_2]? = some x1_ → Cnd (x1_.1 = node_p) (Jn1 (fun (r1_ : Bool) => Cnd (r1_ = true) (Y1 (i_2 + 1)) (K false)) (P_ref1_Has order_p x1_.2)) (Y1 (i_2 + 1))) (Jn1 (fun (r2_ : Bool) => K (!r2_)) (P_ref1_Has order_p node_p))) 0

def P_ref9_Order (nodes_p : (List ByteArray)) (edges_p : (List (ByteArray × ByteArray))) (K : (List ByteArray) → Int → Prop) : Prop :=
  Lp1 (fun (i_2 : Nat) Y1 => ∀ (_ : nodes_p.length ≤ 9223372036854775807), Cnd (((i_2 : Nat) : Int) < ((nodes_p.length : Nat) : Int)) (i_2 ≤ nodes_p.length ∧ ∀ x1_, nodes_p[i_2]? = some x1_ → Jn1 (fun (r1_ : Bool) => Cnd (r1_ = true) (K [] (10 : Int)) (Y1 (i_2 + 1))) (P_ref1_Has (nodes_p.take i_2) x1_)) (Lp1 (fun (i_4 : Nat) Y3 => ∀ (_ : edges_p.length ≤ 9223372036854775807), Cnd (((i_4 : Nat) : Int) < ((edges_p.length : Nat) : Int)) (∀ x2_, edges_p[i_4]? = some x2_ → Jn1 (fun (r2_ : Bool) => Cnd (r2_ = true) (Jn1 (fun (r3_ : Bool) => Cnd (r3_ = true) (Y3 (i_4 + 1)) (K [] (11 : Int))) (P_ref1_Has nodes_p x2_.2)) (K [] (11 : Int))) (P_ref1_Has nodes_p x2_.1)) (Lp1 (fun (order_2 : (List ByteArray)) Y6 => ∀ (_ : order_2.length ≤ 9223372036854775807), Cnd (((order_2.length : Nat) : Int) < ((nodes_p.length : Nat) : Int)) (Lp3 (fun (least_2 : ByteArray) (found_2 : Bool) (i_6 : Nat) Y7 => Cnd (((i_6 : Nat) : Int) < ((nodes_p.length : Nat) : Int)) (∀ x3_, nodes_p[i_6]? = some x3_ → Jn1 (fun (r4_ : Bool) => Cnd (r4_ = true) (Cnd (found_2 = true) (Cnd (Lk.blt x3_ least_2) (Y7 x3_ true (i_6 + 1)) (Y7 least_2 (found_2) (i_6 + 1))) (Y7 x3_ true (i_6 + 1))) (Y7 least_2 (found_2) (i_6 + 1))) (P_ref9_ready order_2 edges_p x3_)) (Cnd (found_2 = true) (Sml order_2.length ∧ Sml (order_2 ++ [least_2]).length ∧ Y6 (order_2 ++ [least_2])) (K [] (12 : Int)))) (⟨#[]⟩ : ByteArray) false 0) (K order_2 (0 : Int))) [])) 0)) 0

def P_ref9_Needs (edges_p : (List (ByteArray × ByteArray))) (node_p : ByteArray) (K : (List ByteArray) → Prop) : Prop :=
  Lp2 (fun (out_3 : (List ByteArray)) (todo_3 : (List ByteArray)) Y1 => ∀ (_ : todo_3.length ≤ 9223372036854775807), Cnd ((0 : Int) < ((todo_3.length : Nat) : Int)) (∃ x1_, todo_3[0]? = some x1_ ∧ 1 ≤ todo_3.length ∧ Lp3 (fun (out_5 : (List ByteArray)) (todo_5 : (List ByteArray)) (i_2 : Nat) Y2 => ∀ (_ : edges_p.length ≤ 9223372036854775807), Cnd (((i_2 : Nat) : Int) < ((edges_p.length : Nat) : Int)) (∀ x2_, edges_p[i_2]? = some x2_ → Cnd (x2_.1 = x1_) (Jn1 (fun (r1_ : Bool) => Cnd (r1_ = true) (Y2 out_5 todo_5 (i_2 + 1)) (Jn1 (fun (r2_ : (List ByteArray)) => Sml todo_5.length ∧ Sml (todo_5 ++ [x2_.2]).length ∧ Y2 r2_ (todo_5 ++ [x2_.2]) (i_2 + 1)) (P_ref1_Add out_5 x2_.2))) (P_ref1_Has out_5 x2_.2)) (Y2 out_5 todo_5 (i_2 + 1))) (Y1 out_5 todo_5)) out_3 (todo_3.drop 1) 0) (K out_3)) [] [node_p]

def P_ref9_Cyclic (nodes_p : (List ByteArray)) (edges_p : (List (ByteArray × ByteArray))) (K : (List ByteArray) → Prop) : Prop :=
  Lp2 (fun (out_3 : (List ByteArray)) (i_3 : Nat) Y1 => ∀ (_ : nodes_p.length ≤ 9223372036854775807), Cnd (((i_3 : Nat) : Int) < ((nodes_p.length : Nat) : Int)) (∀ x1_, nodes_p[i_3]? = some x1_ → Jn1 (fun (r1_ : (List ByteArray)) => Jn1 (fun (r2_ : Bool) => Cnd (r2_ = true) (Jn1 (fun (r3_ : (List ByteArray)) => Y1 r3_ (i_3 + 1)) (P_ref1_Add out_3 x1_)) (Y1 out_3 (i_3 + 1))) (P_ref1_Has r1_ x1_)) (P_ref9_Needs edges_p x1_)) (K out_3)) [] 0

def P_slices_Clone___string_string_ (s_p : (List ByteArray)) (K : (List ByteArray) → Prop) : Prop :=
  ∀ r1_ : Bool, (r1_ = true → s_p = []) → Cnd (r1_ = true) (K []) (Sml s_p.length ∧ K s_p)

def P_slices_Index___string_string_ (s_p : (List ByteArray)) (v_p : ByteArray) (K : Int → Prop) : Prop :=
  ∀ (_ : s_p.length ≤ 9223372036854775807), Lp1 (fun (k_2 : Nat) Y1 => Cnd (((k_2 : Nat) : Int) < ((s_p.length : Nat) : Int)) (∀ x1_, s_p[k_2]? = some x1_ → Cnd (v_p = x1_) (K ((k_2 : Nat) : Int)) (Y1 (k_2 + 1))) (K (-1 : Int))) 0

def P_slices_Contains___string_string_ (s_p : (List ByteArray)) (v_p : ByteArray) (K : Bool → Prop) : Prop :=
  Jn1 (fun (r1_ : Int) => K (decide ((0 : Int) ≤ r1_))) (P_slices_Index___string_string_ s_p v_p)

end Go.Fl
