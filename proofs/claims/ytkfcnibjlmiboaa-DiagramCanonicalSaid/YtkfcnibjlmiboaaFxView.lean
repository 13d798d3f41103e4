/- A function that calls itself: its contract is the least that its own text keeps. Conditions: those in the statements. -/
import Derived.Test.YtkfcnibjlmiboaaFxFn
section
namespace Go.Fx
open Go Go.RowKit Go.Fl Go.Fl.Lk
variable {S : Sig} {A : Type}

def Ev.with (E : Ev S) (g : Nat) (c : Con S) : Ev S := { E with con := fun k => bif Nat.beq k g then some c else E.con k }
/-- A contract in readable form. -/
def recC (pk : List (PK S)) (rd : List (Tr S) → Option A) (X : A → (List (Tr S) → List (Tr S) → Prop) → Prop) : Con S :=
  ⟨pk, fun args K => match rd args with | some a => X a K | none => False⟩
def FixM (E : Ev S) (fuel g : Nat) (pk rk : List (PK S)) (rd : List (Tr S) → Option A) (wr : A → List (Tr S)) (a : A) (K : List (Tr S) → List (Tr S) → Prop) : Prop :=
  ∀ X : A → (List (Tr S) → List (Tr S) → Prop) → Prop, (∀ a K, fnVC (E.with g (recC pk rd X)) fuel g pk rk (wr a) K → X a K) → X a K
theorem with_ok {E : Ev S} (hE : EvOk E) {g : Nat} {c : Con S} (hen : Ent E.P g) (hc : Meets E.P E.D g c) : EvOk (E.with g c) := by
  refine ⟨hE.hP, hE.mix, fun k c' hk => ?_, hE.inl⟩
  simp only [Ev.with] at hk
  cases hb : Nat.beq k g with
  | true =>
    rw [hb] at hk
    cases hk
    rw [Nat.eq_of_beq_eq_true hb]
    exact ⟨hen, hc⟩
  | false => rw [hb] at hk; exact hE.con k c' hk
theorem fix_ok {E : Ev S} (hE : EvOk E) {fuel g : Nat} {pk rk : List (PK S)} {rd : List (Tr S) → Option A} {wr : A → List (Tr S)} (hen : Ent E.P g) (hrd : ∀ args a, rd args = some a → wr a = args) :
    Meets E.P E.D g (recC pk rd (FixM E fuel g pk rk rd wr)) := by
  intro args K hm w σ vals ins hL hS
  simp only [recC] at hm
  split at hm
  case h_2 => exact hm.elim
  rename_i a ha
  have hw := hrd _ _ ha
  subst hw
  refine hm (fun a K => ∀ (w : World) (σ : Hv) (vals : List Value) (ins : List HObj), LayL E.D σ (wr a) vals ins → St ⟨w, σ, feet ins⟩ w σ ins → Calls E.P g vals.toArray w (Back E.D σ w (wr a) vals ins K)) (fun a K hvc => ?_) w σ vals ins hL hS
  refine fn_ok (with_ok hE hen ?_) fuel g pk rk (wr a) K hvc
  intro args K hm
  simp only [recC] at hm
  split at hm
  case h_2 => exact hm.elim
  rename_i a ha
  have hw := hrd _ _ ha
  subst hw
  exact hm
/-- The rule: a measure that falls. -/
theorem FixM.ind {E : Ev S} {fuel g : Nat} {pk rk : List (PK S)} {rd : List (Tr S) → Option A} {wr : A → List (Tr S)} (I : A → (List (Tr S) → List (Tr S) → Prop) → Prop) (m : A → Nat)
    (h : ∀ X a K, I a K → (∀ a' K', m a' < m a → I a' K' → X a' K') → fnVC (E.with g (recC pk rd X)) fuel g pk rk (wr a) K) {a : A} {K : List (Tr S) → List (Tr S) → Prop} (h0 : I a K) : FixM E fuel g pk rk rd wr a K := by
  intro X hX
  have key : ∀ (k : Nat) (a : A) (K : List (Tr S) → List (Tr S) → Prop), m a ≤ k → I a K → X a K := by
    intro k
    induction k with
    | zero => exact fun a K hk hi => hX a K (h X a K hi fun a' K' hm _ => absurd hm (by omega))
    | succ k ih => exact fun a K hk hi => hX a K (h X a K hi fun a' K' hm hi' => ih a' K' (by omega) hi')
  exact key _ a K (Nat.le_refl _) h0
#print axioms fix_ok
end Go.Fx
end
/- Contracts in readable form: arguments and results as tuples. Conditions: those in the statements. -/
section
namespace Go.Fx
open Go Go.RowKit Go.Fl Go.Fl.Lk
variable {S : Sig}

/-- What an argument or a result looks like. -/
inductive VT (S : Sig) : Type where
  | int (k : IntKind)
  | bool
  | str
  | sl (T : S.C)
  | vec (e : TypeId) (T : S.C)
  | el (T : S.C)
  | map (K V : S.C)
  | same
  | ptr (ty : TypeId) (l : List (VT S))
mutual
def VT.ty : VT S → Type
  | .int _ => Int
  | .bool => Bool
  | .str => ByteArray
  | .sl T => List (S.car T)
  | .vec _ T => List (S.car T)
  | .el T => S.car T
  | .map K V => S.car K → Option (S.car V)
  | .same => Unit
  | .ptr _ l => TL l
def TL : List (VT S) → Type
  | [] => Unit
  | v :: l => v.ty × TL l
end
mutual
def VT.put : (v : VT S) → v.ty → Tr S
  | .int k, x => .f (.int k x)
  | .bool, x => .f (.bool x)
  | .str, x => .f (.str x)
  | .sl T, x => .f (.sl T x)
  | .vec e T, x => .vec e T x
  | .el T, x => .el T x
  | .map K V, x => .map K V x
  | .same, _ => .same
  | .ptr ty l, x => .ptr ty (putL l x)
def putL : (l : List (VT S)) → TL l → List (Tr S)
  | [], _ => []
  | v :: l, x => v.put x.1 :: putL l x.2
end
mutual
def VT.get : (v : VT S) → Tr S → Option v.ty
  | .int k, t => match t with
    | .f (.int k' n) => bif k' == k then some n else none
    | _ => none
  | .bool, t => match t with
    | .f (.bool b) => some b
    | _ => none
  | .str, t => match t with
    | .f (.str b) => some b
    | _ => none
  | .sl T, t => match t with
    | .f (.sl T' l) => match S.dec T' T with
      | isTrue h => some (h ▸ l)
      | isFalse _ => none
    | _ => none
  | .vec e T, t => match t with
    | .vec e' T' l => bif Nat.beq e' e then (match S.dec T' T with
      | isTrue h => some (h ▸ l)
      | isFalse _ => none) else none
    | _ => none
  | .el T, t => match t with
    | .el T' l => match S.dec T' T with
      | isTrue h => some (h ▸ l)
      | isFalse _ => none
    | _ => none
  | .map K V, t => match t with
    | .map K' V' F => match S.dec K' K, S.dec V' V with
      | isTrue h, isTrue h' => some (h ▸ h' ▸ F)
      | _, _ => none
    | _ => none
  | .same, t => match t with
    | .same => some ()
    | _ => none
  | .ptr ty l, t => match t with
    | .ptr ty' ts => bif Nat.beq ty' ty then getL l ts else none
    | _ => none
def getL : (l : List (VT S)) → List (Tr S) → Option (TL l)
  | [], [] => some ()
  | v :: l, t :: ts => match v.get t, getL l ts with
    | some x, some y => some (x, y)
    | _, _ => none
  | _, _ => none
end
theorem bif_some {α : Type} {c : Bool} {x : Option α} {y : α} (h : (bif c then x else none) = some y) : c = true ∧ x = some y := by
  cases c with
  | true => exact ⟨rfl, h⟩
  | false => cases h
theorem ik_eq {a b : IntKind} (h : (a == b) = true) : a = b := by cases a <;> cases b <;> first | rfl | exact absurd h (by decide)
mutual
theorem VT.get_put : ∀ {v : VT S} {t : Tr S} {x : v.ty}, v.get t = some x → v.put x = t
  | .int k, t, x, h => by
    unfold VT.get at h
    split at h
    case h_2 => cases h
    obtain ⟨h1, h2⟩ := bif_some h
    cases h2
    rw [ik_eq h1]; rfl
  | .bool, t, x, h => by
    unfold VT.get at h
    split at h
    case h_2 => cases h
    cases h; rfl
  | .str, t, x, h => by
    unfold VT.get at h
    split at h
    case h_2 => cases h
    cases h; rfl
  | .sl T, t, x, h => by
    unfold VT.get at h
    split at h
    case h_2 => cases h
    split at h
    case h_2 => cases h
    rename_i e _
    subst e
    cases h; rfl
  | .vec e T, t, x, h => by
    unfold VT.get at h
    split at h
    case h_2 => cases h
    obtain ⟨h1, h⟩ := bif_some h
    split at h
    case h_2 => cases h
    rename_i e _
    subst e
    cases h
    rw [Nat.eq_of_beq_eq_true h1]; rfl
  | .el T, t, x, h => by
    unfold VT.get at h
    split at h
    case h_2 => cases h
    split at h
    case h_2 => cases h
    rename_i e _
    subst e
    cases h; rfl
  | .map K V, t, x, h => by
    unfold VT.get at h
    split at h
    case h_2 => cases h
    split at h
    case h_2 => cases h
    rename_i e1 e2 _ _
    subst e1 e2
    cases h; rfl
  | .same, t, x, h => by
    unfold VT.get at h
    split at h
    case h_2 => cases h
    rfl
  | .ptr ty l, t, x, h => by
    unfold VT.get at h
    split at h
    case h_2 => cases h
    obtain ⟨h1, h⟩ := bif_some h
    rw [← getL_putL h, Nat.eq_of_beq_eq_true h1]; rfl
theorem getL_putL : ∀ {l : List (VT S)} {ts : List (Tr S)} {x : TL l}, getL l ts = some x → putL l x = ts
  | [], ts, x, h => by
    cases ts with
    | nil => rfl
    | cons => cases h
  | v :: l, ts, x, h => by
    cases ts with
    | nil => cases h
    | cons t ts =>
      simp only [getL] at h
      split at h
      case h_2 => cases h
      rename_i a b h1 h2
      cases h
      show v.put a :: putL l b = t :: ts
      rw [VT.get_put h1, getL_putL h2]
end

/-- A contract by what it says of tuples. -/
def conV (pk : List (PK S)) (av rv ov : List (VT S)) (P : TL av → (TL rv → TL ov → Prop) → Prop) : Con S :=
  ⟨pk, fun args K => optK (getL av args) fun a => P a fun r o => K (putL rv r) (putL ov o)⟩
def fnV (E : Ev S) (fuel g : Nat) (pk rk : List (PK S)) (av rv ov : List (VT S)) (a : TL av) (K : TL rv → TL ov → Prop) : Prop :=
  fnVC E fuel g pk rk (putL av a) fun rets outs => optK (getL rv rets) fun r => optK (getL ov outs) fun o => K r o
theorem Back.mono {D : Shp S} {σ : Hv} {w : World} {args : List (Tr S)} {vals : List Value} {ins : List HObj} {K K' : List (Tr S) → List (Tr S) → Prop} {e : Ending} {w1 : World} (h : ∀ r o, K r o → K' r o) : Back D σ w args vals ins K e w1 → Back D σ w args vals ins K' e w1 := by
  rintro ⟨rets, outs, rv, σ1, msr, mso, h1, h2, h3⟩
  exact ⟨rets, outs, rv, σ1, msr, mso, h1, h _ _ h2, h3⟩
theorem viewK {rv ov : List (VT S)} {K : List (Tr S) → List (Tr S) → Prop} {rets outs : List (Tr S)} (h : optK (getL rv rets) fun r => optK (getL ov outs) fun o => K (putL rv r) (putL ov o)) : K rets outs := by
  obtain ⟨r, hr, h⟩ := optK_some h
  obtain ⟨o, ho, h⟩ := optK_some h
  rw [getL_putL hr, getL_putL ho] at h
  exact h
theorem fnV_ok {E : Ev S} (hE : EvOk E) {fuel g : Nat} {pk rk : List (PK S)} {av rv ov : List (VT S)} {a : TL av} {K : TL rv → TL ov → Prop} (h : fnV E fuel g pk rk av rv ov a K) {w : World} {σ : Hv} {vals : List Value} {ins : List HObj}
    (hL : LayL E.D σ (putL av a) vals ins) (hS : St ⟨w, σ, feet ins⟩ w σ ins) : Calls E.P g vals.toArray w (Back E.D σ w (putL av a) vals ins fun rets outs => optK (getL rv rets) fun r => optK (getL ov outs) fun o => K r o) :=
  fn_ok hE fuel g pk rk (putL av a) (fun rets outs => optK (getL rv rets) fun r => optK (getL ov outs) fun o => K r o) h w σ vals ins hL hS
theorem meetsV {E : Ev S} (hE : EvOk E) (fuel g : Nat) (pk rk : List (PK S)) (av rv ov : List (VT S)) : Meets E.P E.D g (conV pk av rv ov (fnV E fuel g pk rk av rv ov)) := by
  intro args K hm w σ vals ins hL hS
  obtain ⟨a, ha, hm2⟩ := optK_some hm
  have hw := getL_putL ha
  subst hw
  exact Calls.mono (fnV_ok hE hm2 hL hS) fun e w1 h => h.mono fun r o h => viewK h
/-- A function that calls itself. -/
def fixV (E : Ev S) (fuel g : Nat) (pk rk : List (PK S)) (av rv ov : List (VT S)) (a : TL av) (K : TL rv → TL ov → Prop) : Prop :=
  ∀ X : TL av → (TL rv → TL ov → Prop) → Prop, (∀ a K, fnV (E.with g (conV pk av rv ov X)) fuel g pk rk av rv ov a K → X a K) → X a K
theorem meetsX {E : Ev S} (hE : EvOk E) {fuel g : Nat} {pk rk : List (PK S)} {av rv ov : List (VT S)} (hen : Ent E.P g) : Meets E.P E.D g (conV pk av rv ov (fixV E fuel g pk rk av rv ov)) := by
  intro args K hm w σ vals ins hL hS
  obtain ⟨a, ha, hm2⟩ := optK_some hm
  have hw := getL_putL ha
  subst hw
  have key := hm2 (fun a K => ∀ (w : World) (σ : Hv) (vals : List Value) (ins : List HObj), LayL E.D σ (putL av a) vals ins → St ⟨w, σ, feet ins⟩ w σ ins → Calls E.P g vals.toArray w (Back E.D σ w (putL av a) vals ins fun rets outs => optK (getL rv rets) fun r => optK (getL ov outs) fun o => K r o)) (fun a K hvc => by
    intro w σ vals ins hL hS
    refine fnV_ok (with_ok hE hen ?_) hvc hL hS
    intro args K hm w σ vals ins hL hS
    obtain ⟨a, ha, hm2⟩ := optK_some hm
    have hw := getL_putL ha
    subst hw
    exact Calls.mono (hm2 w σ vals ins hL hS) fun e w1 h => h.mono fun r o h => viewK h) w σ vals ins hL hS
  exact Calls.mono key fun e w1 h => h.mono fun r o h => viewK h
theorem meets_mono {P : Program} {D : Shp S} {g : Nat} {pk : List (PK S)} {av rv ov : List (VT S)} {A B : TL av → (TL rv → TL ov → Prop) → Prop} (h : ∀ a K, A a K → B a K) (hB : Meets P D g (conV pk av rv ov B)) : Meets P D g (conV pk av rv ov A) := by
  intro args K hm
  obtain ⟨a, ha, hm2⟩ := optK_some hm
  refine hB args K ?_
  show optK (getL av args) _
  rw [ha]
  exact h a _ hm2
/-- With other specs. -/
def Ev.pl (E : Ev S) (p : Nat → Option (Spec S)) : Ev S := { E with plan := p }
theorem pl_ok {E : Ev S} (hE : EvOk E) (p : Nat → Option (Spec S)) : EvOk (E.pl p) := ⟨hE.hP, hE.mix, hE.con, hE.inl⟩
theorem pl_meets {E : Ev S} {p : Nat → Option (Spec S)} {g : Nat} {c : Con S} (h : Meets (E.pl p).P (E.pl p).D g c) : Meets E.P E.D g c := h
theorem ent_of {P : Program} {g : Nat} {fn : Func} {c : Code} (hf : P.funcs[g]? = some fn) (hn : (fn.name == "runtime.NumGoroutine") = false) (hb : fn.body = some c) : Ent P g := by
  intro args w
  have h1 : fn.name ≠ "runtime.NumGoroutine" := by simpa using hn
  simp [callFunc, hf, h1, hb]
/-- The rule of loops over tuples. -/
theorem LpH.ind {T : Type} {body : T → (T → Prop) → Prop} (I : T → Prop) (m : T → Nat) (h : ∀ t, I t → body t (fun t' => I t' ∧ m t' < m t)) {t : T} (h0 : I t) : LpH body t := by
  intro X hX
  have key : ∀ (k : Nat) (t : T), m t ≤ k → I t → X t := by
    intro k
    induction k with
    | zero => exact fun t _ hi => hX t _ (fun t' h => absurd h.2 (by omega)) (h t hi)
    | succ k ih => exact fun t hk hi => hX t _ (fun t' h => ih t' (by omega) h.1) (h t hi)
  exact key _ t (Nat.le_refl _) h0
#print axioms meetsX
end Go.Fx
end
/- Functions over the contracts of those that they call, and of no others. Conditions: those in the statements. -/
section
namespace Go.Fx
open Go Go.RowKit Go.Fl Go.Fl.Lk
variable {S : Sig}

/-- What a walk is given, over a program and its shapes. -/
def Ev3 (E : Ev S) (P : Program) (D : Shp S) : Prop := EvOk E ∧ E.P = P ∧ E.D = D
theorem with3 {E : Ev S} {P : Program} {D : Shp S} {g : Nat} {c : Con S} (h : Ev3 E P D) (hen : Ent P g) (hc : Meets P D g c) : Ev3 (E.with g c) P D := by
  obtain ⟨h, rfl, rfl⟩ := h
  exact ⟨with_ok h hen hc, rfl, rfl⟩
theorem meets3 {E : Ev S} {P : Program} {D : Shp S} (h : Ev3 E P D) {p : Nat → Option (Spec S)} {fuel g : Nat} {pk rk : List (PK S)} {av rv ov : List (VT S)} {F : TL av → (TL rv → TL ov → Prop) → Prop}
    (e : ∀ a K, F a K = fnV (E.pl p) fuel g pk rk av rv ov a K) : Meets P D g (conV pk av rv ov F) := by
  obtain ⟨h, rfl, rfl⟩ := h
  have hF : F = fnV (E.pl p) fuel g pk rk av rv ov := funext fun a => funext fun K => e a K
  rw [hF]
  exact meetsV (pl_ok h p) fuel g pk rk av rv ov
theorem meetsR {E : Ev S} {P : Program} {D : Shp S} (h : Ev3 E P D) {p : Nat → Option (Spec S)} {fuel g : Nat} {pk rk : List (PK S)} {av rv ov : List (VT S)} {F : TL av → (TL rv → TL ov → Prop) → Prop} (hen : Ent P g)
    (e : ∀ a K, F a K → ∀ X : TL av → (TL rv → TL ov → Prop) → Prop, (∀ a K, fnV ((E.with g (conV pk av rv ov X)).pl p) fuel g pk rk av rv ov a K → X a K) → X a K) : Meets P D g (conV pk av rv ov F) := by
  obtain ⟨h, rfl, rfl⟩ := h
  exact meets_mono (fun a K hF => e a K hF) (meetsX (pl_ok h p) (fuel := fuel) (rk := rk) hen)
end Go.Fx
end
