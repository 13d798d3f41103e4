/- The law GraphOrders holds. -/
import Derived.Test.YtegcjfidfinogaaPuLOrders
import Derived.Test.YtegcjfidfinogaaGrDraw
namespace Go.Fl
open Lk Gr
theorem orders_ok (n turn : Int) (codes : List UInt8) (up : Bool) (raw : List ByteArray) (e : List (ByteArray × ByteArray)) : P_law10_GraphOrders n turn codes up raw e (fun r => r = true) := by
  unfold P_law10_GraphOrders
  refine law10_head ?_
  intro _
  refine Cnd.mk (fun _ => rfl) (fun hraw => ?_)
  intro _
  refine Cnd.mk (fun _ => rfl) (fun he => ?_)
  refine Jn1.mk _ (nodes_ok n turn) (fun l hl => ?_)
  have h8 := nodes_len hl
  refine Jn1.mk _ (edges_ok l codes up) (fun x hx => ?_)
  have hx1 := hx.1
  refine ⟨by unfold Sml; omega, by unfold Sml; simp; omega, ?_⟩
  refine Lp1.ind (fun k => k ≤ 3) (fun k => 3 - k) (fun k hk => ?_) (by omega)
  refine Cnd.mk (fun h => ?_) (fun _ => rfl)
  obtain ⟨p, hp, hpl⟩ : ∃ p, [l, raw, l ++ raw][k]? = some p ∧ p.length ≤ 1000 := by
    have : k = 0 ∨ k = 1 ∨ k = 2 := by omega
    rcases this with rfl | rfl | rfl
    · exact ⟨_, rfl, by omega⟩
    · exact ⟨_, rfl, by omega⟩
    · exact ⟨_, rfl, by simp; omega⟩
  refine ⟨p, hp, by unfold Sml; omega, by unfold Sml; simp; omega, ?_⟩
  refine Lp1.ind (fun k => k ≤ 3) (fun k => 3 - k) (fun m hm => ?_) (by omega)
  refine Cnd.mk (fun h2 => ?_) (fun h2 => ⟨InI.mk (by omega) (by omega), by omega, by omega⟩)
  obtain ⟨q, hq, hql⟩ : ∃ q, [x, e, x ++ e][m]? = some q ∧ q.length ≤ 1000 := by
    have : m = 0 ∨ m = 1 ∨ m = 2 := by omega
    rcases this with rfl | rfl | rfl
    · exact ⟨_, rfl, by omega⟩
    · exact ⟨_, rfl, by omega⟩
    · exact ⟨_, rfl, by simp; omega⟩
  refine ⟨q, hq, ?_⟩
  refine Jn2.mk _ (grOrder_ok p q hpl hql) (fun a f ha => ?_)
  refine Jn2.mk _ (refOrder_ok p q hpl) (fun b g hb => ?_)
  obtain ⟨rfl, rfl⟩ := ha.uniq hb
  refine Cnd.yes rfl ?_
  refine Jn1.mk _ (Same_ok _ _) (fun r hr => ?_)
  exact Cnd.yes (hr.2 rfl) ⟨InI.mk (by omega) (by omega), by omega, by omega⟩
end Go.Fl
