/- The made nodes and edges of chapter 10, and its example. Conditions: those in the statements. -/
import Derived.Test.YtegcjfidfinogaaGrProof
namespace Go.Fl
open Lk Gr
def md (x n : Int) : Int := if x.tmod n < 0 then x.tmod n + n else x.tmod n
theorem md_bd (x : Int) {n : Int} (h : 0 < n) : 0 ≤ md x n ∧ md x n < n := by
  obtain ⟨r, h1, h2, h3⟩ := tmod_any x (show 1 ≤ n from h)
  unfold md; rw [h1]
  split <;> omega
theorem Mod_ok (x n : Int) (h : 0 < n) (h2 : n ≤ 1000) : P_draw_Mod x n (fun r => r = md x n) := by
  obtain ⟨r, h1, h2, h3⟩ := tmod_any x (show 1 ≤ n from h)
  unfold P_draw_Mod md
  refine ⟨by omega, ?_⟩
  exact Cnd.mk (fun hc => ⟨InI.mk (by omega) (by omega), by rw [if_pos hc]⟩) (fun hc => by rw [if_neg hc])
def all8 : List ByteArray := [(⟨#[100]⟩ : ByteArray), (⟨#[97]⟩ : ByteArray), (⟨#[102]⟩ : ByteArray), (⟨#[98]⟩ : ByteArray), (⟨#[101]⟩ : ByteArray), (⟨#[99]⟩ : ByteArray), (⟨#[103]⟩ : ByteArray), (⟨#[]⟩ : ByteArray)]
theorem all8_len : all8.length = 8 := rfl
theorem all8_nodup : all8.Nodup := by decide
theorem nodes_ok (n turn : Int) : P_law10_nodes n turn (fun l => l.Perm (all8.take (md n 9).toNat)) := by
  unfold P_law10_nodes
  rw [show [(⟨#[100]⟩ : ByteArray), (⟨#[97]⟩ : ByteArray), (⟨#[102]⟩ : ByteArray), (⟨#[98]⟩ : ByteArray), (⟨#[101]⟩ : ByteArray), (⟨#[99]⟩ : ByteArray), (⟨#[103]⟩ : ByteArray), (⟨#[]⟩ : ByteArray)] = all8 from rfl]
  refine Jn1.mk _ (Mod_ok n 9 (by omega) (by omega)) (fun r hr => ?_)
  have hb := md_bd n (show (0 : Int) < 9 from by omega)
  subst hr
  generalize md n 9 = r at hb
  obtain ⟨j, rfl⟩ := Int.eq_ofNat_of_zero_le hb.1
  have hl := all8_len
  refine ⟨j, rfl, by omega, fun _ => ?_⟩
  refine Cnd.mk (fun h => ?_) (fun h => ?_)
  · have : j = 0 := by omega
    subst this; simp
  · refine Jn1.mk _ (Mod_ok turn ((j : Nat) : Int) (by omega) (by omega)) (fun q hq => ?_)
    have hb2 := md_bd turn (show (0 : Int) < ((j : Nat) : Int) from by omega)
    subst hq
    generalize md turn ((j : Nat) : Int) = q at hb2
    obtain ⟨k, rfl⟩ := Int.eq_ofNat_of_zero_le hb2.1
    have ht : (all8.take j).length = j := by rw [List.length_take]; omega
    have hd := List.length_drop (i := k) (l := all8.take j)
    have hk := List.length_take_le k (all8.take j)
    refine ⟨k, rfl, by omega, k, rfl, by omega, by unfold Sml; omega, by unfold Sml; rw [List.length_append]; omega, ?_⟩
    have := List.perm_append_comm (l₁ := (all8.take j).drop k) (l₂ := (all8.take j).take k)
    rw [List.take_append_drop] at this
    simpa using this
theorem nodes_len {l : List ByteArray} {j : Nat} (h : l.Perm (all8.take j)) : l.length ≤ 8 := by
  rw [h.length_eq, List.length_take, all8_len]; omega
theorem nodes_nodup {l : List ByteArray} {j : Nat} (h : l.Perm (all8.take j)) : l.Nodup := h.nodup_iff.2 (all8_nodup.sublist (List.take_sublist _ _))
theorem New_ok (l : List UInt8) : P_draw_New l (30 : Int) (fun b => b.1.length ≤ 30 ∧ b.2 = 0) := by
  unfold P_draw_New
  intro _
  refine Cnd.mk (fun h => ⟨30, rfl, by omega, by simp; omega, rfl⟩) (fun h => ⟨by show l.length ≤ 30; omega, rfl⟩)
theorem Left_ok (b : List UInt8 × Int) : P_draw_Codes_Left b (fun r => (r = true ↔ b.2 < ((b.1.length : Nat) : Int))) := by
  unfold P_draw_Codes_Left
  intro _
  simp
theorem Next_ok (b : List UInt8 × Int) (n : Int) (hn : 0 < n) (h0 : 0 ≤ b.2) (hl : b.1.length ≤ 1000) :
    P_draw_Codes_Next b n (fun r c => (0 ≤ r ∧ r < n) ∧ c.1 = b.1 ∧ ((b.2 < ((b.1.length : Nat) : Int) ∧ c.2 = b.2 + 1) ∨ (¬ b.2 < ((b.1.length : Nat) : Int) ∧ c.2 = b.2))) := by
  unfold P_draw_Codes_Next
  refine Jn1.mk _ (Left_ok b) (fun r hr => ?_)
  refine Cnd.mk (fun h => ?_) (fun h => ⟨⟨by omega, hn⟩, rfl, .inr ⟨fun hh => h (hr.2 hh), rfl⟩⟩)
  have hlt := hr.1 h
  obtain ⟨k, hk⟩ := Int.eq_ofNat_of_zero_le h0
  obtain ⟨x, hx⟩ : ∃ x, b.1[k]? = some x := ⟨_, List.getElem?_eq_getElem (by omega)⟩
  refine ⟨InI.mk (by omega) (by omega), InI.mk (by omega) (by omega), k, by omega, x, hx, by omega, ?_, rfl, .inl ⟨hlt, rfl⟩⟩
  obtain ⟨m, h1, h2⟩ := tmod_nat x.toNat (show 1 ≤ n from hn)
  rw [h1]; omega
theorem edges_ok (l : List ByteArray) (codes : List UInt8) (up : Bool) : P_law10_edges l codes up (fun x => x.length ≤ 30 ∧ (∀ e ∈ x, e.1 ∈ l ∧ e.2 ∈ l) ∧ (up = false → ∀ e ∈ x, blt e.2 e.1)) := by
  unfold P_law10_edges
  refine Jn1.mk _ (New_ok codes) (fun b0 hb0 => ?_)
  refine Lp2.ind (fun out b => b.1.length ≤ 30 ∧ 0 ≤ b.2 ∧ b.2 ≤ ((b.1.length : Nat) : Int) ∧ ((out.length : Nat) : Int) ≤ b.2 ∧ (∀ e ∈ out, e.1 ∈ l ∧ e.2 ∈ l) ∧ (up = false → ∀ e ∈ out, blt e.2 e.1)) (fun _ b => (((b.1.length : Nat) : Int) - b.2).toNat) (fun out b hi => ?_) ⟨hb0.1, by omega, by omega, by simp; omega, by simp, by simp⟩
  obtain ⟨i1, i2, i3, i4, i5, i6⟩ := hi
  have fin : out.length ≤ 30 ∧ (∀ e ∈ out, e.1 ∈ l ∧ e.2 ∈ l) ∧ (up = false → ∀ e ∈ out, blt e.2 e.1) := ⟨by omega, i5, i6⟩
  refine Jn1.mk _ (Left_ok b) (fun r hr => ?_)
  refine Cnd.mk (fun h => fun _ => ?_) (fun _ => fin)
  have hlt := hr.1 h
  refine Cnd.mk (fun h => ?_) (fun _ => fin)
  refine Jn2.mk (fun e c => e.1 ∈ l ∧ e.2 ∈ l ∧ c.1 = b.1 ∧ b.2 < c.2 ∧ c.2 ≤ ((b.1.length : Nat) : Int)) ?_ (fun e c hc => ?_)
  · refine Jn2.mk _ (Next_ok b _ (by omega) i2 (by omega)) (fun r q hq => ?_)
    obtain ⟨q1, q2, q3⟩ := hq
    obtain ⟨j, hj⟩ := Int.eq_ofNat_of_zero_le q1.1
    obtain ⟨x, hx⟩ : ∃ x, l[j]? = some x := ⟨_, List.getElem?_eq_getElem (by omega)⟩
    refine ⟨j, hj, x, hx, ?_⟩
    have hq0 : b.2 < q.2 := by omega
    refine Jn2.mk _ (Next_ok q _ (by omega) (by omega) (by rw [q2]; omega)) (fun r2 s hs => ?_)
    obtain ⟨s1, s2, s3⟩ := hs
    obtain ⟨j2, hj2⟩ := Int.eq_ofNat_of_zero_le s1.1
    obtain ⟨x2, hx2⟩ : ∃ x, l[j2]? = some x := ⟨_, List.getElem?_eq_getElem (by omega)⟩
    rw [q2] at s3
    exact ⟨j2, hj2, x2, hx2, List.mem_of_getElem? hx, List.mem_of_getElem? hx2, by rw [s2, q2], by omega, by omega⟩
  · obtain ⟨c1, c2, c3, c4, c5⟩ := hc
    have hlen : (out ++ [e]).length = out.length + 1 := by simp
    have grow : (up = false → blt e.2 e.1) → ((c.1.length ≤ 30 ∧ 0 ≤ c.2 ∧ c.2 ≤ ((c.1.length : Nat) : Int) ∧ (((out ++ [e]).length : Nat) : Int) ≤ c.2 ∧ (∀ e' ∈ out ++ [e], e'.1 ∈ l ∧ e'.2 ∈ l) ∧ (up = false → ∀ e' ∈ out ++ [e], blt e'.2 e'.1)) ∧ (((c.1.length : Nat) : Int) - c.2).toNat < (((b.1.length : Nat) : Int) - b.2).toNat) := by
      intro hb
      rw [c3, hlen]
      refine ⟨⟨i1, by omega, by omega, by omega, fun e' he => ?_, fun hu e' he => ?_⟩, by omega⟩
      · rcases List.mem_append.1 he with he | he
        · exact i5 e' he
        · rw [List.mem_singleton.1 he]; exact ⟨c1, c2⟩
      · rcases List.mem_append.1 he with he | he
        · exact i6 hu e' he
        · rw [List.mem_singleton.1 he]; exact hb hu
    refine Cnd.mk (fun hu => ⟨by unfold Sml; omega, grow fun hf => by rw [hu] at hf; cases hf⟩) (fun hu => ?_)
    refine Cnd.mk (fun hb => ⟨by unfold Sml; omega, grow fun _ => hb⟩) (fun _ => ?_)
    have cl : c.1.length = b.1.length := congrArg List.length c3
    exact ⟨⟨by omega, by omega, by omega, by omega, i5, i6⟩, by omega⟩
theorem awake10_ok : P_law10_awake (fun r => r = true) := by
  unfold P_law10_awake
  have nab : (⟨#[97]⟩ : ByteArray) ≠ ⟨#[98]⟩ := by decide
  have nac : (⟨#[97]⟩ : ByteArray) ≠ ⟨#[99]⟩ := by decide
  have nbc : (⟨#[98]⟩ : ByteArray) ≠ ⟨#[99]⟩ := by decide
  have bab : blt (⟨#[97]⟩ : ByteArray) ⟨#[98]⟩ := by decide
  generalize (⟨#[97]⟩ : ByteArray) = a at *
  generalize (⟨#[98]⟩ : ByteArray) = b at *
  generalize (⟨#[99]⟩ : ByteArray) = c at *
  refine Jn2.mk _ (grOrder_ok [a, b, c] [(a, c), (b, a)] (by simp) (by simp)) (fun l r hlr => ?_)
  have nba : b ≠ a := nab.symm
  have nca : c ≠ a := nac.symm
  have ncb : c ≠ b := nbc.symm
  have want : Ord [a, b, c] [(a, c), (b, a)] [c, a, b] 0 := by
    refine .inr (.inr ⟨by simp [nab, nac, nbc], by simp, .inr ⟨?_, rfl, rfl⟩⟩)
    have g1 : Grd [a, b, c] [(a, c), (b, a)] ([] ++ [c]) := Grd.nil.snoc ⟨⟨by simp, by simp, by simp [nac, nbc]⟩, fun y hy => by
      obtain ⟨h1, _, h3⟩ := hy
      simp at h1 h3
      rcases h1 with rfl | rfl | rfl
      · exact absurd rfl h3.1
      · exact absurd rfl h3.2
      · exact blt_irrefl _⟩
    have g2 : Grd [a, b, c] [(a, c), (b, a)] (([] ++ [c]) ++ [a]) := g1.snoc ⟨⟨by simp, by simp [nac], by simp [nba]⟩, fun y hy => by
      obtain ⟨h1, h2, h3⟩ := hy
      simp at h1 h2
      rcases h1 with rfl | rfl | rfl
      · exact blt_irrefl _
      · exact blt_asymm bab
      · exact absurd rfl h2⟩
    have g3 : Grd [a, b, c] [(a, c), (b, a)] ((([] ++ [c]) ++ [a]) ++ [b]) := g2.snoc ⟨⟨by simp, by simp [nbc, nba], by simp [nab]⟩, fun y hy => by
      obtain ⟨h1, h2, h3⟩ := hy
      simp at h1 h2
      rcases h1 with rfl | rfl | rfl
      · exact absurd rfl h2.2
      · exact blt_irrefl _
      · exact absurd rfl h2.1⟩
    exact g3
  obtain ⟨rfl, rfl⟩ := hlr.uniq want
  refine Cnd.yes rfl (Jn1.mk _ (Same_ok _ _) (fun r hr => hr.2 rfl))
theorem law10_head {A : Prop} (hA : A) : Jn1 (fun (r : Bool) => Cnd (r = true) A (false = true)) P_law10_awake :=
  Jn1.mk _ awake10_ok (fun _ hr => Cnd.mk (fun _ => hA) (fun h => absurd hr h))
end Go.Fl
