/- Plain meanings of functions of identities, from what was proved of them. Conditions: none; no program is in sight. -/
import Derived.Test.YtehmnkholidanaaIdPath
import Derived.Test.YtehmnkholidanaaFlPure
namespace Go.Fl
open Lk
/-- The ids of made links. -/
def Lk.ids6' : List ByteArray := [⟨#[97, 110, 110]⟩, ⟨#[98, 111, 98]⟩, ⟨#[99, 97, 116]⟩, ⟨#[100, 97, 110]⟩, ⟨#[101, 118, 101]⟩, ⟨#[102, 97, 121]⟩]
def P_identity_Members (l : List L3) (x : ByteArray) (K : List ByteArray → Prop) : Prop := l.length ≤ 1000 ∧ ∀ ys, IsMem l x ys → K ys
def P_ref26_Members (l : List L3) (x : ByteArray) (K : List ByteArray → Prop) : Prop := l.length ≤ 1000 ∧ ∀ ys, IsMem l x ys → K ys
def P_identity_Root (l : List L3) (x : ByteArray) (K : ByteArray → Prop) : Prop := ∀ r, Least l x r → K r
def P_identity_Same (l : List L3) (x y : ByteArray) (K : Bool → Prop) : Prop := ∀ r : Bool, (r = true ↔ Conn l x y) → K r
def P_identity_Until (l : List L3) (t : Int) (K : List L3 → Prop) : Prop := l.length ≤ 1000 ∧ K (upto t l)
def P_ref26_Until (l : List L3) (t : Int) (K : List L3 → Prop) : Prop := l.length ≤ 1000 ∧ K (upto t l)
def P_identity_Forest (l : List L3) (K : List L3 → Prop) : Prop := l.length ≤ 1000 ∧ K (fo l l.length)
def P_data_Links (l : List UInt8) (_loose : Bool) (K : List L3 → Prop) : Prop := ∀ r : List L3, r.length ≤ 30 → (∀ e ∈ r, e.1 ∈ ids6' ∧ e.2.1 ∈ ids6') → l.length = l.length → K r
def P_data_Ids (K : List ByteArray → Prop) : Prop := K ids6'
def P_data_Id (n : Int) (K : ByteArray → Prop) : Prop := 0 ≤ n ∧ ∀ s ∈ ids6', K s
end Go.Fl
