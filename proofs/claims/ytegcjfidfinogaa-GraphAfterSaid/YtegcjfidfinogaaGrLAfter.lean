/- The law GraphAfter holds. -/
import Derived.Test.YtegcjfidfinogaaPuLAfter
import Derived.Test.YtegcjfidfinogaaGrNeeds
namespace Go.Fl
open Lk Gr
theorem after_ok (n turn : Int) (codes : List UInt8) : P_law10_GraphAfter n turn codes (fun r => r = true) := by
  unfold P_law10_GraphAfter
  refine law10_head ?_
  refine Jn1.mk _ (nodes_ok n turn) (fun l hl => ?_)
  have h8 := nodes_len hl
  have hnd := nodes_nodup hl
  refine Jn1.mk _ (edges_ok l codes false) (fun x hx => ?_)
  obtain ⟨hx1, hin, hf⟩ := hx
  have hfall := hf rfl
  refine Jn2.mk _ (grOrder_ok l x (by omega) (by omega)) (fun o r ho => ?_)
  have good : Grd l x o ∧ o.length = l.length ∧ r = 0 := by
    rcases ho with ⟨h1, _⟩ | ⟨_, ⟨e, he, hb⟩, _⟩ | ⟨_, _, ⟨o', h1, h2, h3, _⟩ | h1⟩
    · exact absurd hnd h1
    · have := hin e he
      rcases hb with hb | hb
      · exact absurd this.1 hb
      · exact absurd this.2 hb
    · exact (stuck_falls hnd hin hfall h2 h3).elim
    · exact h1
  obtain ⟨hg, hlen, rfl⟩ := good
  refine Cnd.yes rfl ?_
  intro _ _
  refine Cnd.yes (by omega) ?_
  refine Lp1.ind (fun i => i ≤ o.length) (fun i => o.length - i) (fun i hi => ?_) (Nat.zero_le _)
  refine Cnd.mk (fun h y hy => ?_) (fun _ => rfl)
  refine Jn1.mk _ (Has_ok l y) (fun r hr => ?_)
  refine Cnd.yes (hr.2 (hg.sub y (List.mem_of_getElem? hy))) ⟨hi, ?_⟩
  refine Jn1.mk _ (Has_ok (o.take i) y) (fun r hr => ?_)
  refine Cnd.no (fun hc => (hg i y hy).1.2.1 (hr.1 hc)) ?_
  refine Jn1.mk _ (grNeeds_ok x y (by omega)) (fun need hneed => ?_)
  refine Lp1.ind (fun k => k ≤ need.length) (fun k => need.length - k) (fun k hk => ?_) (Nat.zero_le _)
  intro _
  refine Cnd.mk (fun h2 => ⟨hi, fun z hz => ?_⟩) (fun _ => ⟨by omega, by omega⟩)
  refine Jn1.mk _ (Has_ok (o.take i) z) (fun r hr => ?_)
  exact Cnd.yes (hr.2 (hg.ahead hy ((hneed.2 z).1 (List.mem_of_getElem? hz)))) ⟨by omega, by omega⟩
end Go.Fl
