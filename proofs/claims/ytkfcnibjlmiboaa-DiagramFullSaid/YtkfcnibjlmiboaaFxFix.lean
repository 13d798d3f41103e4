/- A function that calls itself: its contract is the least that its own text keeps. Conditions: those in the statements. -/
import Derived.Test.YtkfcnibjlmiboaaFxFn
namespace Go.Fx
open Go Go.RowKit Go.Fl Go.Fl.Lk
variable {S : Sig} {A : Type}

def Ev.with (E : Ev S) (g : Nat) (c : Con S) : Ev S := { E with con := fun k => bif Nat.beq k g then some c else E.con k }
/-- A contract in readable form. -/
def recC (pk : List (PK S)) (rd : List (Tr S) → Option A) (X : A → (List (Tr S) → List (Tr S) → Prop) → Prop) : Con S :=
  ⟨pk, fun args K => match rd args with | some a => X a K | none => False⟩
def FixM (E : Ev S) (fuel g : Nat) (pk rk : List (PK S)) (rd : List (Tr S) → Option A) (wr : A → List (Tr S)) (a : A) (K : List (Tr S) → List (Tr S) → Prop) : Prop :=
  ∀ X : A → (List (Tr S) → List (Tr S) → Prop) → Prop, (∀ a K, fnVC (E.with g (recC pk rd X)) fuel g pk rk (wr a) K → X a K) → X a K
theorem with_ok {E : Ev S} (hE : EvOk E) {g : Nat} {c : Con S} (hen : Ent E.P g) (hc : Meets E.P E.D g c) : EvOk (E.with g c) := by
  refine ⟨hE.hP, hE.mix, fun k c' hk => ?_, hE.inl⟩
  simp only [Ev.with] at hk
  cases hb : Nat.beq k g with
  | true =>
    rw [hb] at hk
    cases hk
    rw [Nat.eq_of_beq_eq_true hb]
    exact ⟨hen, hc⟩
  | false => rw [hb] at hk; exact hE.con k c' hk
theorem fix_ok {E : Ev S} (hE : EvOk E) {fuel g : Nat} {pk rk : List (PK S)} {rd : List (Tr S) → Option A} {wr : A → List (Tr S)} (hen : Ent E.P g) (hrd : ∀ args a, rd args = some a → wr a = args) :
    Meets E.P E.D g (recC pk rd (FixM E fuel g pk rk rd wr)) := by
  intro args K hm w σ vals ins hL hS
  simp only [recC] at hm
  split at hm
  case h_2 => exact hm.elim
  rename_i a ha
  have hw := hrd _ _ ha
  subst hw
  refine hm (fun a K => ∀ (w : World) (σ : Hv) (vals : List Value) (ins : List HObj), LayL E.D σ (wr a) vals ins → St ⟨w, σ, feet ins⟩ w σ ins → Calls E.P g vals.toArray w (Back E.D σ w (wr a) vals ins K)) (fun a K hvc => ?_) w σ vals ins hL hS
  refine fn_ok (with_ok hE hen ?_) fuel g pk rk (wr a) K hvc
  intro args K hm
  simp only [recC] at hm
  split at hm
  case h_2 => exact hm.elim
  rename_i a ha
  have hw := hrd _ _ ha
  subst hw
  exact hm
/-- The rule: a measure that falls. -/
theorem FixM.ind {E : Ev S} {fuel g : Nat} {pk rk : List (PK S)} {rd : List (Tr S) → Option A} {wr : A → List (Tr S)} (I : A → (List (Tr S) → List (Tr S) → Prop) → Prop) (m : A → Nat)
    (h : ∀ X a K, I a K → (∀ a' K', m a' < m a → I a' K' → X a' K') → fnVC (E.with g (recC pk rd X)) fuel g pk rk (wr a) K) {a : A} {K : List (Tr S) → List (Tr S) → Prop} (h0 : I a K) : FixM E fuel g pk rk rd wr a K := by
  intro X hX
  have key : ∀ (k : Nat) (a : A) (K : List (Tr S) → List (Tr S) → Prop), m a ≤ k → I a K → X a K := by
    intro k
    induction k with
    | zero => exact fun a K hk hi => hX a K (h X a K hi fun a' K' hm _ => absurd hm (by omega))
    | succ k ih => exact fun a K hk hi => hX a K (h X a K hi fun a' K' hm hi' => ih a' K' (by omega) hi')
  exact key _ a K (Nat.le_refl _) h0
#print axioms fix_ok
end Go.Fx
