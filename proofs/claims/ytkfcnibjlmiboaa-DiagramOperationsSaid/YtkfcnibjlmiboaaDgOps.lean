/- The operations of the program's store give what the document's give. Conditions: those in the statement. -/
import Derived.Test.YtkfcnibjlmiboaaDgMade
namespace Go.Dg5
open Go.Fl Go.Fx Go.Dg

theorem ops_ok {codes : List Int} {K : Bool → Prop} (hc : ∀ x ∈ codes, 0 ≤ x ∧ x < 256) (h : K true) : P_lOps codes K := by
  unfold P_lOps S_lOps
  exact awake_ok (Cnd.yes rfl (made_ok hc (by decide) (by decide) fun _ _ _ _ _ _ _ _ _ _ => h))
end Go.Dg5
