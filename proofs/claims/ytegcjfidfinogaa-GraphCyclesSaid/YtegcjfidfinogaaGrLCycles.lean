/- The law GraphCycles holds. -/
import Derived.Test.YtegcjfidfinogaaPuLCycles
import Derived.Test.YtegcjfidfinogaaGrNeeds
namespace Go.Fl
open Lk Gr
theorem cycles_ok (n turn other : Int) (codes : List UInt8) : P_law10_GraphCycles n turn other codes (fun r => r = true) := by
  unfold P_law10_GraphCycles
  refine law10_head ?_
  refine Jn1.mk _ (nodes_ok n turn) (fun l hl => ?_)
  have h8 := nodes_len hl
  have hnd := nodes_nodup hl
  refine Jn1.mk _ (edges_ok l codes true) (fun x hx => ?_)
  obtain ⟨hx1, hin, _⟩ := hx
  refine Jn2.mk _ (grOrder_ok l x (by omega) (by omega)) (fun o r ho => ?_)
  refine Jn1.mk _ (grCyclic_ok l x (by omega) (by omega)) (fun c hc => ?_)
  intro _
  refine ⟨by unfold Sml; omega, ?_⟩
  refine Lp2.ind (fun k y => k ≤ x.length ∧ y.length = x.length ∧ ∀ (j : Nat) e, j < k → x[j]? = some e → y[x.length - 1 - j]? = some e) (fun k _ => x.length - k) (fun k y hi => ?_) ⟨Nat.zero_le _, by simp, fun j e h => by omega⟩
  obtain ⟨hk, hyl, hset⟩ := hi
  refine Cnd.mk (fun h => ?_) (fun h => ?_)
  · refine ⟨InI.mk (by omega) (by omega), InI.mk (by omega) (by omega), fun e he => ?_⟩
    obtain ⟨z, hz⟩ : ∃ z, y[x.length - 1 - k]? = some z := ⟨_, List.getElem?_eq_getElem (by omega)⟩
    refine ⟨x.length - 1 - k, by omega, z, hz, ⟨by omega, by rw [List.length_set]; exact hyl, fun j e' hj he' => ?_⟩, by omega⟩
    rw [List.getElem?_set]
    by_cases hjk : j = k
    · subst hjk
      rw [he] at he'
      cases he'
      rw [if_pos rfl, if_pos (by omega)]
    · rw [if_neg (by omega)]
      exact hset j e' (by omega) he'
  · have hkx : k = x.length := by omega
    subst hkx
    have hmem : ∀ e, e ∈ x ↔ e ∈ y := by
      intro e
      constructor
      · intro he
        obtain ⟨j, hj⟩ := List.mem_iff_getElem?.1 he
        exact List.mem_of_getElem? (hset j e (ltq hj) hj)
      · intro he
        obtain ⟨i, hi⟩ := List.mem_iff_getElem?.1 he
        have hil := ltq hi
        obtain ⟨z, hz⟩ : ∃ z, x[x.length - 1 - i]? = some z := ⟨_, List.getElem?_eq_getElem (by omega)⟩
        have h1 := hset (x.length - 1 - i) z (by omega) hz
        rw [show x.length - 1 - (x.length - 1 - i) = i from by omega, hi] at h1
        cases h1
        exact List.mem_of_getElem? hz
    refine Jn1.mk _ (nodes_ok n other) (fun l2 hl2 => ?_)
    have h82 := nodes_len hl2
    have hpl : l.Perm l2 := hl.trans hl2.symm
    refine Jn2.mk _ (grOrder_ok l2 y (by omega) (by omega)) (fun p f hp => ?_)
    have hp2 := ho.congr (ms := l2) (D := y) (fun z => hpl.mem_iff) hmem hpl.nodup_iff hpl.length_eq
    obtain ⟨rfl, rfl⟩ := hp2.uniq hp
    have two : (r = 0 ∧ c = []) ∨ (r = 12 ∧ c ≠ []) := by
      rcases ho with ⟨h1, _⟩ | ⟨_, ⟨e, he, hb⟩, _⟩ | ⟨_, _, ⟨o', h1, h2, h3, _, h5⟩ | ⟨h1, h2, h3⟩⟩
      · exact absurd hnd h1
      · have := hin e he
        rcases hb with hb | hb
        · exact absurd this.1 hb
        · exact absurd this.2 hb
      · refine .inr ⟨h5, fun hcn => ?_⟩
        obtain ⟨z, hz1, hz2⟩ := stuck_cycle hnd hin h2 h3
        have := (hc.2 z).2 ⟨hz1, hz2⟩
        rw [hcn] at this; cases this
      · refine .inl ⟨h3, ?_⟩
        rcases Classical.em (c = []) with hh | hh
        · exact hh
        · exfalso
          obtain ⟨z, hz⟩ := List.exists_mem_of_ne_nil c hh
          have := (hc.2 z).1 hz
          exact h1.nocycle h2 this.1 this.2
    refine ⟨True, fun _ => ?_, ?_⟩
    · intro _
      have heq : ((decide (r = (12 : Int))) == (decide ((0 : Int) < ((c.length : Nat) : Int)))) = true := by
        rcases two with ⟨rfl, rfl⟩ | ⟨rfl, hne⟩
        · rfl
        · have := List.length_pos_iff.2 hne
          simp; omega
      refine Cnd.yes heq (Cnd.yes rfl ?_)
      exact Jn1.mk _ (Same_ok _ _) (fun r hr => hr.2 rfl)
    · rcases two with ⟨rfl, _⟩ | ⟨rfl, _⟩
      · exact Cnd.yes rfl trivial
      · exact Cnd.no (by omega) (Cnd.yes rfl trivial)
end Go.Fl
