/- Contracts of functions of identities, as plain meanings. Conditions: those of each meaning. -/
import Derived.Test.YtehmnkholidanaaA3
import Derived.Test.YtehmnkholidanaaA6
import Derived.Test.YtehmnkholidanaaA9
import Derived.Test.YtehmnkholidanaaIdWrap
import Derived.Test.YtehmnkholidanaaFlLift
namespace Go.Proofs.Ytehmnkholidanaa
open Go Go.RowKit Go.Fl
theorem w_identity_Members {σ : Hv} {w : World} (l : List Lk.L3) (x : ByteArray) (v : Value) {K : List ByteArray → Prop} (hV : View σ w) (hv : RSl 3 (REnc encLk) σ v l) (hP : P_identity_Members l x K) :
    Calls Try.prog 18 #[v, .string x] w (fun e w1 => ∃ (r1 : List ByteArray) (v2 : Value) (σ1 : Hv), e = .returned v2 ∧ Grow [] σ w σ1 w1 ∧ RSl 1 (REnc encTx) σ1 v2 r1 ∧ K r1) := by
  refine Calls.mono (c_Members v l x hP.1 hV hv) ?_
  rintro e w1 ⟨v1, ys, σ1, rfl, hg, hr, hm⟩
  exact ⟨ys, v1, σ1, rfl, hg, hr, hP.2 ys hm⟩

theorem w_ref26_Members {σ : Hv} {w : World} (l : List Lk.L3) (x : ByteArray) (v : Value) {K : List ByteArray → Prop} (hV : View σ w) (hv : RSl 3 (REnc encLk) σ v l) (hP : P_ref26_Members l x K) :
    Calls Try.prog 24 #[v, .string x] w (fun e w1 => ∃ (r1 : List ByteArray) (v2 : Value) (σ1 : Hv), e = .returned v2 ∧ Grow [] σ w σ1 w1 ∧ RSl 1 (REnc encTx) σ1 v2 r1 ∧ K r1) := by
  refine Calls.mono (r_Members v l x hP.1 hV hv) ?_
  rintro e w1 ⟨v1, ys, σ1, rfl, hg, hr, hm⟩
  exact ⟨ys, v1, σ1, rfl, hg, hr, hP.2 ys hm⟩

theorem w_identity_Root {σ : Hv} {w : World} (l : List Lk.L3) (x : ByteArray) (v : Value) {K : ByteArray → Prop} (hV : View σ w) (hv : RSl 3 (REnc encLk) σ v l) (hP : P_identity_Root l x K) :
    Calls Try.prog 20 #[v, .string x] w (fun e w1 => ∃ (r1 : ByteArray), e = .returned (.string r1) ∧ Grow [] σ w σ w1 ∧ K r1) := by
  refine Calls.mono (c_Root v l x hV hv) ?_
  rintro e w1 ⟨r, rfl, hr, hg⟩
  exact ⟨r, rfl, hg, hP r hr⟩

theorem w_identity_Same {σ : Hv} {w : World} (l : List Lk.L3) (x y : ByteArray) (v : Value) {K : Bool → Prop} (hV : View σ w) (hv : RSl 3 (REnc encLk) σ v l) (hP : P_identity_Same l x y K) :
    Calls Try.prog 15 #[v, .string x, .string y] w (fun e w1 => ∃ (r1 : Bool), e = .returned (.bool r1) ∧ Grow [] σ w σ w1 ∧ K r1) := by
  refine Calls.mono (c_Same v l x y hV hv) ?_
  rintro e w1 ⟨r, rfl, hr, hg⟩
  exact ⟨r, rfl, hg, hP r hr⟩

theorem w_identity_Until {σ : Hv} {w : World} (l : List Lk.L3) (t : Int) (v : Value) {K : List Lk.L3 → Prop} (hV : View σ w) (hv : RSl 3 (REnc encLk) σ v l) (hP : P_identity_Until l t K) :
    Calls Try.prog 23 #[v, .int .i64 t] w (fun e w1 => ∃ (r1 : List Lk.L3) (v2 : Value) (σ1 : Hv), e = .returned v2 ∧ Grow [] σ w σ1 w1 ∧ RSl 3 (REnc encLk) σ1 v2 r1 ∧ K r1) := by
  refine Calls.mono (c_Until v l t hV hv hP.1) ?_
  rintro e w1 ⟨v1, σ1, rfl, hg, hr⟩
  exact ⟨_, v1, σ1, rfl, hg, hr, hP.2⟩

theorem w_ref26_Until {σ : Hv} {w : World} (l : List Lk.L3) (t : Int) (v : Value) {K : List Lk.L3 → Prop} (hV : View σ w) (hv : RSl 3 (REnc encLk) σ v l) (hP : P_ref26_Until l t K) :
    Calls Try.prog 27 #[v, .int .i64 t] w (fun e w1 => ∃ (r1 : List Lk.L3) (v2 : Value) (σ1 : Hv), e = .returned v2 ∧ Grow [] σ w σ1 w1 ∧ RSl 3 (REnc encLk) σ1 v2 r1 ∧ K r1) := by
  refine Calls.mono (r_Until v l t hV hv hP.1) ?_
  rintro e w1 ⟨v1, σ1, rfl, hg, hr⟩
  exact ⟨_, v1, σ1, rfl, hg, hr, hP.2⟩

theorem w_identity_Forest {σ : Hv} {w : World} (l : List Lk.L3) (v : Value) {K : List Lk.L3 → Prop} (hV : View σ w) (hv : RSl 3 (REnc encLk) σ v l) (hP : P_identity_Forest l K) :
    Calls Try.prog 21 #[v] w (fun e w1 => ∃ (r1 : List Lk.L3) (v2 : Value) (σ1 : Hv), e = .returned v2 ∧ Grow [] σ w σ1 w1 ∧ RSl 3 (REnc encLk) σ1 v2 r1 ∧ K r1) := by
  refine Calls.mono (c_Forest v l hP.1 hV hv) ?_
  rintro e w1 ⟨v1, σ1, rfl, hg, hr⟩
  exact ⟨_, v1, σ1, rfl, hg, hr, hP.2⟩

theorem w_data_Links {σ : Hv} {w : World} (l : List UInt8) (o : Bool) (v : Value) {K : List Lk.L3 → Prop} (hV : View σ w) (hv : RSl 1 RU8 σ v l) (hP : P_data_Links l o K) :
    Calls Try.prog 12 #[v, .bool o] w (fun e w1 => ∃ (r1 : List Lk.L3) (v2 : Value) (σ1 : Hv), e = .returned v2 ∧ Grow [] σ w σ1 w1 ∧ RSl 3 (REnc encLk) σ1 v2 r1 ∧ K r1) := by
  refine Calls.mono (c_Links v l o hV hv) ?_
  rintro e w1 ⟨v1, l1, σ1, rfl, hg, hr, h1, h2⟩
  exact ⟨l1, v1, σ1, rfl, hg, hr, hP l1 h1 h2 rfl⟩

theorem w_data_Ids {σ : Hv} {w : World}  {K : List ByteArray → Prop} (hV : View σ w) (hP : P_data_Ids K) :
    Calls Try.prog 14 #[] w (fun e w1 => ∃ (r1 : List ByteArray) (v2 : Value), e = .returned v2 ∧ Grow [] σ w σ w1 ∧ Sml r1.length ∧ ((vec v2 9 1 r1.length ((r1).flatMap encTx)).ok w1 ∧ ∀ k, (vec v2 9 1 r1.length ((r1).flatMap encTx)).foot = some k → w.heap.size ≤ k ∧ σ k = none) ∧ K r1) := by
  refine Calls.mono (c_Ids hV) ?_
  rintro e w1 ⟨v1, rfl, hg, ho, hf⟩
  exact ⟨ids6, v1, rfl, hg, by simp [Sml, ids6], ⟨ho, hf⟩, hP⟩

theorem w_data_Id {σ : Hv} {w : World} (n : Int) {K : ByteArray → Prop} (hV : View σ w) (hP : P_data_Id n K) :
    Calls Try.prog 13 #[.int .i64 n] w (fun e w1 => ∃ (r1 : ByteArray), e = .returned (.string r1) ∧ Grow [] σ w σ w1 ∧ K r1) := by
  obtain ⟨h0, h⟩ := hP
  obtain ⟨m, rfl⟩ : ∃ m : Nat, n = (m : Int) := ⟨n.toNat, by omega⟩
  refine Calls.mono (c_Id m hV) ?_
  rintro e w1 ⟨s, rfl, hs, hg⟩
  exact ⟨s, rfl, hg, h s hs⟩

end Go.Proofs.Ytehmnkholidanaa
