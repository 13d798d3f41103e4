/- The law GraphNeeds holds. -/
import Derived.Test.YtegcjfidfinogaaPuLNeeds
import Derived.Test.YtegcjfidfinogaaGrNeeds
namespace Go.Fl
open Lk Gr
theorem needs_same (E : List E2) (x : ByteArray) (hE : E.length ≤ 900) {A : Prop} (h : A) : Jn1 (fun (a : List ByteArray) => Jn1 (fun (b : List ByteArray) => Jn1 (fun (r : Bool) => Cnd (r = true) A (false = true)) (P_ref1_Same a b)) (P_ref9_Needs E x)) (P_graph_Needs E x) := by
  refine Jn1.mk _ (grNeeds_ok E x (by omega)) (fun a ha => ?_)
  refine Jn1.mk _ (refNeeds_ok E x hE) (fun b hb => ?_)
  exact Jn1.mk _ (Same_ok _ _) (fun r hr => Cnd.yes (hr.2 (ha.uniq hb)) h)
theorem needs_ok (n turn : Int) (codes : List UInt8) (up : Bool) (raw : ByteArray) (e : List (ByteArray × ByteArray)) : P_law10_GraphNeeds n turn codes up raw e (fun r => r = true) := by
  unfold P_law10_GraphNeeds
  refine law10_head ?_
  intro _
  refine Cnd.mk (fun _ => rfl) (fun he => ?_)
  refine Jn1.mk _ (nodes_ok n turn) (fun l hl => ?_)
  have h8 := nodes_len hl
  refine Jn1.mk _ (edges_ok l codes up) (fun x hx => ?_)
  have hx1 := hx.1
  have hxe : (x ++ e).length ≤ 60 := by rw [List.length_append]; omega
  generalize x ++ e = y at hxe
  refine ⟨by unfold Sml; omega, ?_⟩
  refine Lp1.ind (fun i => i ≤ l.length) (fun i => l.length - i) (fun i hi => ?_) (Nat.zero_le _)
  intro _
  refine Cnd.mk (fun h z hz => needs_same y z (by omega) ⟨by omega, by omega⟩) (fun _ => ?_)
  refine ⟨by unfold Sml; omega, by unfold Sml; simp; omega, ?_⟩
  refine needs_same y raw (by omega) ?_
  refine Jn1.mk _ (grCyclic_ok l y (by omega) (by omega)) (fun a ha => ?_)
  refine Jn1.mk _ (refCyclic_ok l y (by omega) (by omega)) (fun b hb => ?_)
  refine Jn1.mk _ (Same_ok _ _) (fun r hr => Cnd.yes (hr.2 (ha.uniq hb)) ?_)
  have hmore : (l ++ [raw, raw]).length ≤ 900 := by simp; omega
  generalize l ++ [raw, raw] = more at hmore
  refine Jn1.mk _ (grCyclic_ok more y hmore (by omega)) (fun a ha => ?_)
  refine Jn1.mk _ (refCyclic_ok more y hmore (by omega)) (fun b hb => ?_)
  exact Jn1.mk _ (Same_ok _ _) (fun r hr => hr.2 (ha.uniq hb))
end Go.Fl
